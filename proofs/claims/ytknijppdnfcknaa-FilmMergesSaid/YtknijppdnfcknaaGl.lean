/- FilmMerges: the law's walk. -/
import Derived.Test.YtknijppdnfcknaaGi
import Derived.Test.YtknijppdnfcknaaGj
import Derived.Test.YtknijppdnfcknaaGk
namespace Go.Proofs.Ytknijppdnfcknaa
open Go.RowKit FF

def jin (W H : Nat) (a b c d : Int) : Bool := decide (0 ≤ a) && decide (0 ≤ b) && decide (c ≤ W) && decide (d ≤ H) && decide (a < c) && decide (b < d)
theorem jin_iff {W H : Nat} {a b c d : Int} : jin W H a b c d = true ↔ jobIn W H a b c d := by
  unfold jin jobIn; simp [and_assoc]
def EndRel (w : World) (fb ib pb wb : Nat) (P : Nat → Px) (i : Value) (wr : World) : Prop :=
  ∃ k : Nat, k ≤ 20 ∧ i = .int .i64 k ∧ FilmAt wr fb ib pb 5 4 P ∧ PixAt wr wb 20 P ∧ Below w.heap.size w wr
theorem sizePx : (Try.prog.info? 41).map (·.size) = some 8 := by kernel_rfl
def PartRel (w : World) (fb ib pb wb rb N2 tw th : Nat) (P Q : Nat → Px) (a b : Nat) (i : Value) (wr : World) : Prop :=
  ∃ k : Nat, k ≤ N2 ∧ i = .int .i64 k ∧ FilmAt wr fb ib pb 5 4 (mF 5 P tw Q a b (b + th) a) ∧ PixAt wr wb 20 (mF 5 P tw Q a b (b + k / tw) (a + k % tw)) ∧ PixAt wr rb N2 Q ∧
    Blk wr w.heap.size (jobc (a : Int) b ((a : Int) + tw) ((b : Int) + th)) ∧ Below w.heap.size w wr
set_option maxRecDepth 100000 in
set_option maxHeartbeats 4000000 in
theorem merges_walk {w : World} {a a2 : Option Addr} {n n2 : Nat} {dr dr2 : Nat → Dr} (h1 : IsDr w a n dr) (h2 : IsDr w a2 n2 dr2) (cap cap2 : Nat) (ja jb jc jd : Int) :
    Calls Try.prog 3 #[.slice a n cap, .slice a2 n2 cap2, jobv ja jb jc jd] w fun e w' => e = .returned (.bool true) ∧ Below w.heap.size w w' := by
  have AW := Lib.hid awake_b
  have V1 := Lib.hid (fun W' (hW : Below w.heap.size w W') => valid_any (h1.below hW) cap)
  have V2 := Lib.hid (fun W' (hW : Below w.heap.size w W') => valid_any (h2.below hW) cap2)
  have D1 : ∀ W', Below w.heap.size w W' → Calls Try.prog 9 #[.int .i64 5, .int .i64 4, .slice a n cap] W' (DropPost W' 5 4 n dr) := fun W' hW => dropped_any (h1.below hW) cap 5 4 (by omega) (by omega) (by omega) (by omega) (by omega)
  have D2 := Lib.hid (fun W' (hW : Below w.heap.size w W') => dropped_any (h2.below hW) cap2)
  replace D1 := Lib.hid D1
  unfold jobv
  go_enter Try.func3, Try.ntmps3
  go_upto_region 6 with (first | ((with_reducible refine ((AW.out).at _).mono ?_); rintro _ _ ⟨rfl, X1, rfl⟩) | ((with_reducible refine (V1.out _ ?_).mono ?_); (repeat (first | with_reducible exact Below.refl _ _ | with_reducible refine Below.setCell ?_ (by simp <;> omega) _ | with_reducible refine below_drewN ?_ _ | with_reducible refine Below.alloc ?_ (by simp <;> omega) _ | with_reducible refine Below.over ?_ (by simp <;> omega) _ | with_reducible refine Below.drew ?_)); rintro _ _ ⟨b1, rfl, _, X2, rfl⟩) | ((with_reducible refine (V2.out _ ?_).mono ?_); (repeat (first | with_reducible exact Below.refl _ _ | with_reducible refine Below.setCell ?_ (by simp <;> omega) _ | with_reducible refine below_drewN ?_ _ | with_reducible refine Below.alloc ?_ (by simp <;> omega) _ | with_reducible refine Below.over ?_ (by simp <;> omega) _ | with_reducible refine Below.drew ?_)); rintro _ _ ⟨b2, rfl, _, X3, rfl⟩) | ((with_reducible refine (D1.out _ ?_).mono ?_); (repeat (first | with_reducible exact Below.refl _ _ | with_reducible refine Below.setCell ?_ (by simp <;> omega) _ | with_reducible refine below_drewN ?_ _ | with_reducible refine Below.alloc ?_ (by simp <;> omega) _ | with_reducible refine Below.over ?_ (by simp <;> omega) _ | with_reducible refine Below.drew ?_)); rintro _ w2 ⟨fb, ib, pb, wb, rfl, hF, hP, hB, l1, l2, l3, l4, q1, q2, q3⟩))
  any_goals (go_ret; (refine ⟨rfl, ?_⟩); (repeat (first | with_reducible exact Below.refl _ _ | with_reducible refine Below.setCell ?_ (by simp <;> omega) _ | with_reducible refine below_drewN ?_ _ | with_reducible refine Below.alloc ?_ (by simp <;> omega) _ | with_reducible refine Below.over ?_ (by simp <;> omega) _ | with_reducible refine Below.drew ?_)))
  have B0 : Below w.heap.size w w2 := (show Below w.heap.size w _ by repeat (first | with_reducible exact Below.refl _ _ | with_reducible refine Below.setCell ?_ (by simp <;> omega) _ | with_reducible refine below_drewN ?_ _ | with_reducible refine Below.alloc ?_ (by simp <;> omega) _ | with_reducible refine Below.over ?_ (by simp <;> omega) _ | with_reducible refine Below.drew ?_)).trans (hB.mono (by simp; omega))
  have BJ : Blk w2 w.heap.size (jobc ja jb jc jd) := ((Blk.new w _ _).over (by simp) _).kept (p := fun _ => False) (Kept.of_below hB) id (by simp)
  rw [World.over_size, World.size_alloc] at l1 l2 l3 l4
  generalize dropF 5 4 dr (min n 200) = P at *
  have HF := Lib.hid hF
  have HP := Lib.hid hP
  have HB := Lib.hid B0
  have HJ := Lib.hid BJ
  have m1 : w.heap.size < fb := by omega
  have m2 : w.heap.size < ib := by omega
  have m3 : w.heap.size < pb := by omega
  have m4 : w.heap.size < wb := by omega
  have sz := B0.size
  have j0 := BJ.1 0 _ rfl
  have j1 := BJ.1 1 _ rfl
  have j2 := BJ.1 2 _ rfl
  have j3 := BJ.1 3 _ rfl
  simp only [Nat.zero_add] at j0 j1 j2 j3
  clear hF hP hB B0 BJ l1 l2 l3 l4 V1 V2 D1 AW X1 X2 X3
  obtain ⟨jn, hjn⟩ : ∃ b, jin 5 4 ja jb jc jd = b := ⟨_, rfl⟩
  have HN := Lib.hid hjn
  clear hjn
  go_cut [10] (fun s10 wz => s10 = .bool jn ∧ wz = w2)
  case first => as_aux_lemma =>
    go_wp2_with fail
    all_goals
      go_meet
      refine ⟨?_, rfl⟩
      rw [← HN.out]
      unfold jin
      clear HN HF HP HB HJ j0 j1 j2 j3
      refine congrArg Value.bool ?_
      rw [Bool.eq_iff_iff]
      simp
      omega
  case rest => as_aux_lemma =>
    obtain ⟨rfl, rfl⟩ := hcut
    cases jn
    · have hnot : ¬ jobIn 5 4 ja jb jc jd := fun h => by rw [← jin_iff, HN.out] at h; cases h
      have D2f : ∀ W', Below w.heap.size w W' → Calls Try.prog 9 #[.int .i64 2, .int .i64 2, .slice a2 n2 cap2] W' (DropPost W' 2 2 n2 dr2) := fun W' hW => D2.out W' hW 2 2 (by omega) (by omega) (by omega) (by omega) (by omega)
      have NF : ∀ W', Calls Try.prog 10 #[.int .i64 3, .int .i64 2] W' (NewFilm W' 3 2) := fun W' => fnew_b W' 3 2 (by omega) (by omega) (by omega) (by omega) (by omega)
      have MR := fun W' (hW : FilmAt W' fb ib pb 5 4 P) gb => merge_range hW gb ja jb jc jd hnot
      unfold jobv at MR
      replace D2f := Lib.hid D2f
      replace NF := Lib.hid NF
      replace MR := Lib.hid MR
      clear D2 HN hnot
      go_wp2_with ((with_reducible refine (D2f.out _ HB.out).mono ?_); rintro _ w3 ⟨gb, gi, gp, rb, rfl, hG, hR, hB3, l1, l2, l3, l4, s1, s2, s3⟩)
      have K3 := Kept.of_below (p := fun _ => False) hB3
      go_upto_region 12 with ((with_reducible refine (NF.out _).mono ?_); rintro _ w4 ⟨ob, oi, op, rfl, hO, hB4, o1, o2, o3⟩)
      have K4 := Kept.of_below (p := fun _ => False) hB4
      have F4 : FilmAt w4 fb ib pb 5 4 P := HF.out.kept (K3.trans K4) id id id
      have P4 : PixAt w4 wb 20 P := HP.out.kept (K3.trans K4) id
      have B4 : Below w.heap.size w w4 := HB.out.trans ((K3.trans K4).below sz (fun _ _ => id))
      have J4 := HJ.out.kept (K3.trans K4) id (by simp [jobc])
      clear j0 j1 j2 j3
      have j0 := J4.1 0 _ rfl
      have j1 := J4.1 1 _ rfl
      have j2 := J4.1 2 _ rfl
      have j3 := J4.1 3 _ rfl
      simp only [Nat.zero_add] at j0 j1 j2 j3
      replace F4 := Lib.hid F4
      replace P4 := Lib.hid P4
      replace B4 := Lib.hid B4
      clear J4 K3 K4 hG hR hB3 hO hB4 HF HP HB HJ l1 l2 l3 l4 o1 o2 o3 s1 s2 s3
      go_wp2_with ((with_reducible refine (MR.out _ F4.out _).mono ?_); rintro _ _ ⟨rfl, X5, rfl⟩)
      have HF := Lib.hid (F4.out.over X5)
      have HP := Lib.hid (P4.out.over X5)
      have HB := Lib.hid (B4.out.over B4.out.size X5)
      clear F4 P4 B4 j0 j1 j2 j3 MR NF D2f
      go_loopw [155] (fun i wr => EndRel w fb ib pb wb P i wr) (fun i _ => 20 - (intOf i).toNat)
      case atStart => exact ⟨0, by omega, rfl, HF.out, HP.out, HB.out⟩
      case round =>
        clear HF HP HB
        obtain ⟨k, hk, rfl, hF, hP, hB⟩ := hrel
        have HF := Lib.hid hF
        have HP := Lib.hid hP
        have HB := Lib.hid hB
        have sz := hB.size
        have cf := hF.c
        have zf := hF.lt
        have zw := hP.lt
        clear hF hP hB
        by_cases hlt : k < 20
        · have PY := fun W' (hW : FilmAt W' fb ib pb 5 4 P) => pixel_yes hW ((k : Int) % 5) ((k : Int) / 5) (by omega) (by omega) (by omega) (by omega)
          have ek : ((k : Int) / 5 * ((5 : Nat) : Int) + (k : Int) % 5).toNat = k := by omega
          simp only [ek] at PY
          have SP := samepx_b (P k)
          obtain ⟨e0, e1, e2, e3, e4, e5, e6, e7⟩ := HP.out.cells8 (k := k) (by omega)
          clear ek
          generalize P k = p at *
          obtain ⟨⟨p0, p1, p2, p3, p4, p5⟩, p6, p7⟩ := p
          unfold Px.v at PY SP
          dsimp only at PY SP e0 e1 e2 e3 e4 e5 e6 e7
          replace PY := Lib.hid PY
          replace SP := Lib.hid SP
          go_wp2_with ((with_reducible refine (PY.out _ ?_).mono ?_); (exact HF.out); rintro _ _ ⟨rfl, X7, rfl⟩)
          refine wp_any_world (fun U => FilmAt U fb ib pb 5 4 P ∧ PixAt U wb 20 P ∧ Below w.heap.size w U ∧ Blk U (wr.heap.size + X7.n) [.float .f64 p0, .float .f64 p1, .float .f64 p2, .float .f64 p3, .float .f64 p4, .float .f64 p5, .int .i64 p6, .int .i64 p7] ∧
            U.cell? ⟨wb, k * 8, none⟩ = some (.float .f64 p0) ∧ U.cell? ⟨wb, k * 8 + 1, none⟩ = some (.float .f64 p1) ∧ U.cell? ⟨wb, k * 8 + 2, none⟩ = some (.float .f64 p2) ∧ U.cell? ⟨wb, k * 8 + 3, none⟩ = some (.float .f64 p3) ∧
            U.cell? ⟨wb, k * 8 + 4, none⟩ = some (.float .f64 p4) ∧ U.cell? ⟨wb, k * 8 + 5, none⟩ = some (.float .f64 p5) ∧ U.cell? ⟨wb, k * 8 + 6, none⟩ = some (.int .i64 p6) ∧ U.cell? ⟨wb, k * 8 + 7, none⟩ = some (.int .i64 p7)) ?_ ?_
          · refine ⟨(HF.out.over _).alloc _, (HP.out.over _).alloc _, (HB.out.over sz _).alloc (by simp; omega) _, ?_, ?_, ?_, ?_, ?_, ?_, ?_, ?_, ?_⟩
            · have := Blk.new (wr.over X7) #[.float .f64 p0, .float .f64 p1, .float .f64 p2, .float .f64 p3, .float .f64 p4, .float .f64 p5, .int .i64 p6, .int .i64 p7] 41
              rw [World.over_size] at this
              exact this
            all_goals (refine cell_alloc (cell_over ?_ _) _; assumption)
          clear e0 e1 e2 e3 e4 e5 e6 e7 HF HP HB cf zf zw sz PY
          generalize wr.heap.size + X7.n = t20
          rintro U ⟨hF, hP, hB, A, e0, e1, e2, e3, e4, e5, e6, e7⟩
          have HF := Lib.hid hF
          have HP := Lib.hid hP
          have HB := Lib.hid hB
          have sz := hB.size
          have a0 := A.1 0 _ rfl
          have a1 := A.1 1 _ rfl
          have a2 := A.1 2 _ rfl
          have a3 := A.1 3 _ rfl
          have a4 := A.1 4 _ rfl
          have a5 := A.1 5 _ rfl
          have a6 := A.1 6 _ rfl
          have a7 := A.1 7 _ rfl
          simp only [Nat.zero_add] at a0 a1 a2 a3 a4 a5 a6 a7
          have zt := A.lt (by simp)
          have zw := hP.lt
          clear A hF hP hB
          refine wp_region_over0 (by kernel_rfl) (by kernel_rfl) ?_
          repeat (first | go_big_quiet_step (with_reducible exact SP.out.quiet _ _) | quiet_step (with_reducible exact SP.out.quiet _ _))
          refine wpQuiet_nil ?_; intro _ hw'; obtain ⟨X, hw''⟩ := hw'; subst hw''
          go_wp2_with fail
          go_roundw
          case rel => exact ⟨k + 1, by omega, by go_num, HF.out.over _, HP.out.over _, HB.out.over sz _⟩
          case measure => simp [intOf]; omega
        · go_wp2_with fail
          go_ret
          exact ⟨rfl, HB.out⟩
    · obtain ⟨h0a, h0b, hc, hd, hac, hbd⟩ := jin_iff.1 HN.out
      obtain ⟨xa, rfl⟩ := Int.eq_ofNat_of_zero_le h0a
      obtain ⟨xb, rfl⟩ := Int.eq_ofNat_of_zero_le h0b
      obtain ⟨tw, htw⟩ := Int.eq_ofNat_of_zero_le (show 0 ≤ jc - (xa : Int) by omega)
      obtain rfl : jc = (xa : Int) + tw := by omega
      obtain ⟨th, hth⟩ := Int.eq_ofNat_of_zero_le (show 0 ≤ jd - (xb : Int) by omega)
      obtain rfl : jd = (xb : Int) + th := by omega
      have t1 : 1 ≤ tw := by omega
      have t2 : 1 ≤ th := by omega
      have t3 : xa + tw ≤ 5 := by omega
      have t4 : xb + th ≤ 4 := by omega
      have hjob := Lib.hid (jin_iff.1 HN.out)
      clear h0a h0b hc hd hac hbd htw hth HN
      have wq1 : IntKind.i64.wrap ((xa : Int) + tw - xa) = tw := by rw [IntKind.wrap_i64]; omega
      have wq2 : IntKind.i64.wrap ((xb : Int) + th - xb) = th := by rw [IntKind.wrap_i64]; omega
      have hpr : tw * th ≤ 20 := Nat.mul_le_mul (show tw ≤ 5 by omega) (show th ≤ 4 by omega)
      obtain ⟨N2, hN2⟩ : ∃ N, tw * th = N := ⟨_, rfl⟩
      have hN20 : N2 ≤ 20 := by omega
      have D2g : ∀ W', Below w.heap.size w W' → Calls Try.prog 9 #[.int .i64 (tw : Int), .int .i64 (th : Int), .slice a2 n2 cap2] W' (fun e w' =>
          ∃ gb gi gp rb, e = .returned (.tuple #[.pointer (some ⟨gb, 0, none⟩), .slice (some ⟨rb, 0, none⟩) N2 N2, .bool true]) ∧
            FilmAt w' gb gi gp tw th (dropF tw th dr2 (min n2 200)) ∧ PixAt w' rb N2 (dropF tw th dr2 (min n2 200)) ∧ Below W'.heap.size W' w' ∧
            W'.heap.size ≤ gb ∧ W'.heap.size ≤ gi ∧ W'.heap.size ≤ gp ∧ W'.heap.size ≤ rb ∧ rb ≠ gb ∧ rb ≠ gi ∧ rb ≠ gp) := by
        subst hN2
        exact fun W' hW => D2.out W' hW tw th (by omega) (by omega) (by omega) (by omega) (by omega)
      have NF : ∀ W', Calls Try.prog 10 #[.int .i64 ((tw : Int) + 1), .int .i64 (th : Int)] W' (NewFilm W' (tw + 1) th) := fun W' => by
        have := fnew_b W' (tw + 1) th (by omega) (by omega) (by omega) (by omega) (by rw [Nat.add_mul]; omega)
        exact this
      have hne : ((((tw + 1 : Nat)) : Int) != (xa : Int) + tw - xa) = true := by rw [bne_iff_ne]; omega
      have MS := fun W' ob oi op (hW : FilmAt W' fb ib pb 5 4 P) (hO : FilmAt W' ob oi op (tw + 1) th (fun _ => pz)) => merge_size hW hO (xa : Int) (xb : Int) ((xa : Int) + tw) ((xb : Int) + th) hjob.out hne
      have MN := fun W' => merge_nil W' fb (xa : Int) (xb : Int) ((xa : Int) + tw) ((xb : Int) + th)
      have MO := fun W' gb gi gp Q (hW : FilmAt W' fb ib pb 5 4 P) (hG : FilmAt W' gb gi gp tw th Q) => merge_ok hW hG xa xb t3 t4
      unfold jobv at MS MN MO
      have H2 := Lib.hid hN2
      replace D2g := Lib.hid D2g
      replace NF := Lib.hid NF
      replace MS := Lib.hid MS
      replace MN := Lib.hid MN
      replace MO := Lib.hid MO
      clear D2 hjob hne hN2
      go_wp2_with fail
      go_quiet (fail)
      go_wp2_with ((with_reducible refine (D2g.out _ ?_).mono ?_); (exact below_drewN HB.out _); rintro _ w3 ⟨gb, gi, gp, rb, rfl, hG, hR, hB3, l1, l2, l3, l4, s1, s2, s3⟩)
      have K3 : Kept (fun _ => False) wc w3 := (Kept.drewN _ wc nq).trans (Kept.of_below hB3)
      go_upto_region 12 with ((with_reducible refine (NF.out _).mono ?_); rintro _ w4 ⟨ob, oi, op, rfl, hO, hB4, o1, o2, o3⟩)
      have K4 := Kept.of_below (p := fun _ => False) hB4
      have hf := HF.out.lt
      have hi := HF.out.img.lt
      have hp := HF.out.img.pix.lt
      have hw := HP.out.lt
      have z3 : wc.heap.size ≤ w3.heap.size := K3.size
      have l1' : wc.heap.size ≤ gb := l1
      have l2' : wc.heap.size ≤ gi := l2
      have l3' : wc.heap.size ≤ gp := l3
      have l4' : wc.heap.size ≤ rb := l4
      have F4 : FilmAt w4 fb ib pb 5 4 P := HF.out.kept (K3.trans K4) id id id
      have P4 : PixAt w4 wb 20 P := HP.out.kept (K3.trans K4) id
      have B4 : Below w.heap.size w w4 := HB.out.trans ((K3.trans K4).below sz (fun _ _ => id))
      have J4 := HJ.out.kept (K3.trans K4) id (by simp [jobc])
      have G4 := hG.kept K4 id id id
      have R4 := hR.kept K4 id
      generalize dropF tw th dr2 (min n2 200) = Q at *
      have G4' := Lib.hid G4
      have R4' := Lib.hid R4
      have F4' := Lib.hid F4
      have P4' := Lib.hid P4
      have B4' := Lib.hid B4
      have J4' := Lib.hid J4
      have O4' := Lib.hid hO
      clear j0 j1 j2 j3
      have j0 := J4.1 0 _ rfl
      have j1 := J4.1 1 _ rfl
      have j2 := J4.1 2 _ rfl
      have j3 := J4.1 3 _ rfl
      simp only [Nat.zero_add] at j0 j1 j2 j3
      have u1 : gb ≠ pb := by omega
      have u2 : gi ≠ pb := by omega
      have u3 : gp ≠ pb := by omega
      have u4 : rb ≠ pb := by omega
      have u5 : rb ≠ wb := by omega
      have u6 : gb ≠ ob := by have := hG.lt; omega
      have zj : w.heap.size < w4.heap.size := J4.lt (by simp [jobc])
      clear J4 K3 K4 hG hR hB3 hO hB4 HF HP HB HJ l1 l2 l3 l4 l1' l2' l3' l4' o1 o2 o3 s1 s2 s3 F4 P4 B4 G4 R4 wq1 wq2 D2g NF z3 hf hi hp hw
      go_upto_region 19 with (first | ((with_reducible refine (MS.out _ ob oi op ?_ ?_).mono ?_); (repeat (first | exact F4'.out | refine FilmAt.over ?_ _)); (repeat (first | exact O4'.out | refine FilmAt.over ?_ _)); rintro _ _ ⟨rfl, X5, rfl⟩) | ((with_reducible refine (MN.out _).mono ?_); rintro _ _ ⟨rfl, X6, rfl⟩) | ((with_reducible refine (MO.out _ gb gi gp Q ?_ ?_ u1 u2 u3).mono ?_); (repeat (first | exact F4'.out | refine FilmAt.over ?_ _)); (repeat (first | exact G4'.out | refine FilmAt.over ?_ _)); rintro _ w5 ⟨rfl, hF5, hK5⟩))
      have KK : Kept (fun n => n = pb) w4 w5 := (Kept.over _ w4 _).trans hK5
      have R0 : PartRel w fb ib pb wb rb N2 tw th P Q xa xb (.int .i64 ((0 : Nat) : Int)) w5 := by
        refine ⟨0, by omega, rfl, hF5, ?_, R4'.out.kept KK u4, J4'.out.kept KK (by omega) (by simp [jobc]), ?_⟩
        · rw [Nat.zero_div, Nat.zero_mod, Nat.add_zero, Nat.add_zero, mF_start]
          exact P4'.out.kept KK q3
        · exact B4'.out.trans (KK.below (by omega) (fun b hb e => by omega))
      replace R0 := Lib.hid R0
      clear hF5 hK5 KK MS MN MO G4' R4' F4' P4' B4' J4' O4' j0 j1 j2 j3 u1 u2 u3 u6 zj sz nq
      go_wp2_with fail
      go_loopw [129] (fun i wr => PartRel w fb ib pb wb rb N2 tw th P Q xa xb i wr) (fun i _ => N2 - (intOf i).toNat)
      case atStart => exact R0.out
      case round =>
        clear R0
        obtain ⟨k, hk, rfl, hF, hP, hR, hJ, hB⟩ := hrel
        have HF := Lib.hid hF
        have HP := Lib.hid hP
        have HR := Lib.hid hR
        have HJ := Lib.hid hJ
        have HB := Lib.hid hB
        have sz := hB.size
        have j0 := hJ.1 0 _ rfl
        have j1 := hJ.1 1 _ rfl
        simp only [Nat.zero_add] at j0 j1
        by_cases hlt : k < N2
        · obtain ⟨e0, e1, e2, e3, e4, e5, e6, e7⟩ := hR.cells8 (k := k) hlt
          have hqr : k / tw < th := by rw [Nat.div_lt_iff_lt_mul (by omega), Nat.mul_comm, H2.out]; exact hlt
          have hrr : k % tw < tw := Nat.mod_lt _ (by omega)
          have hpos : (xb + k / tw) * 5 + (xa + k % tw) < 20 := by omega
          have E1 := mF_next (px := P) (qx := Q) (tw := tw) (a := xa) (b := xb) (k := k) (W := 5) t1 t3
          obtain ⟨f0, f1, f2, f3, f4, f5, f6, f7⟩ := hP.froz8 hpos
          obtain ⟨g0, g1, g2, g3, g4, g5, g6, g7⟩ := hP.cells8 hpos
          have zw := hP.lt
          clear hF hP hR hJ hB
          have dq : Int.tdiv (k : Int) (tw : Int) = ((k / tw : Nat) : Int) := rfl
          have dr' : Int.tmod (k : Int) (tw : Int) = ((k % tw : Nat) : Int) := rfl
          have dz : ((tw : Int) == 0) = false := by simp; omega
          generalize hq : k / tw = q at *
          generalize hr : k % tw = r at *
          clear hq hr
          obtain ⟨v0, v4, pos, hv0, hv4, hsum, hpe, b1', b2', b3', b4'⟩ : ∃ (v0 v4 : Int) (pos : Nat), (q : Int) = v0 ∧ (r : Int) = v4 ∧ ((xb : Int) + v0) * 5 + xa + v4 = (pos : Int) ∧ (xb + q) * 5 + (xa + r) = pos ∧ 0 ≤ v0 ∧ (xb : Int) + v0 ≤ 3 ∧ 0 ≤ v4 ∧ (xa : Int) + v4 ≤ 4 :=
            ⟨q, r, (xb + q) * 5 + (xa + r), rfl, rfl, by omega, rfl, by omega, by omega, by omega, by omega⟩
          rw [hv0] at dq
          rw [hv4] at dr'
          clear hv0 hv4
          rw [hpe] at hpos E1 f0 f1 f2 f3 f4 f5 f6 f7 g0 g1 g2 g3 g4 g5 g6 g7
          clear hpe
          replace E1 := Lib.hid E1
          generalize mF 5 P tw Q xa xb (xb + q) (xa + r) = PA at *
          generalize PA pos = pa at *
          obtain ⟨⟨pa0, pa1, pa2, pa3, pa4, pa5⟩, pa6, pa7⟩ := pa
          dsimp only at g0 g1 g2 g3 g4 g5 g6 g7
          generalize hqk : Q k = qk at *
          obtain ⟨⟨qk0, qk1, qk2, qk3, qk4, qk5⟩, qk6, qk7⟩ := qk
          dsimp only at e0 e1 e2 e3 e4 e5 e6 e7
          replace hqk := Lib.hid hqk
          clear t3 t4 hpr hqr hrr m1 m2 m3
          go_wp2_with fail
          refine wp_region_tailQ 20 (by kernel_rfl) (by kernel_rfl) (by kernel_rfl) (by kernel_rfl) ?_; simp only [List.take_succ_cons, List.take_zero, List.drop_succ_cons, List.drop_zero]
          repeat (first | go_big_quiet_step (fail) | quiet_step (fail))
          refine wpQuiet_nil ?_; intro _ hw'; obtain ⟨nq, hw''⟩ := hw'; subst hw''
          refine wpList_store_mid rfl 41 _ _ rfl wb (pos * 8) #[.float .f64 qk0, .float .f64 qk1, .float .f64 qk2, .float .f64 qk3, .float .f64 qk4, .float .f64 qk5, .int .i64 qk6, .int .i64 qk7] rfl rfl (HP.out.there1 hpos) sizePx (by simp [Value.oneCell']) ?_
          have kb : Kept (fun m => m = wb) wr ((wr.drewN nq).setCells wb (pos * 8) (Px.cells ⟨⟨qk0, qk1, qk2, qk3, qk4, qk5⟩, qk6, qk7⟩)) := (Kept.drewN _ wr nq).trans (Kept.setCells (p := fun m => m = wb) _ rfl _ _)
          have kp := (PixAt.of_block (w' := wr.drewN nq) HP.out rfl).set hpos ⟨⟨qk0, qk1, qk2, qk3, qk4, qk5⟩, qk6, qk7⟩
          rw [E1.out] at kp
          show wpList _ _ _ _ _ ((wr.drewN nq).setCells wb (pos * 8) (Px.cells ⟨⟨qk0, qk1, qk2, qk3, qk4, qk5⟩, qk6, qk7⟩))
          have hF' := HF.out.kept kb q1.symm q2.symm q3.symm
          have hR' := HR.out.kept kb u5
          have hJ' := HJ.out.kept kb (by omega) (by simp [jobc])
          have hB' := HB.out.trans (kb.below sz (fun b hb e => by omega))
          generalize (wr.drewN nq).setCells wb (pos * 8) (Px.cells ⟨⟨qk0, qk1, qk2, qk3, qk4, qk5⟩, qk6, qk7⟩) = W6 at *
          have RR : PartRel w fb ib pb wb rb N2 tw th P Q xa xb (.int .i64 ((k + 1 : Nat) : Int)) W6 := ⟨k + 1, by omega, rfl, hF', kp, hR', hJ', hB'⟩
          replace RR := Lib.hid RR
          clear kb kp hF' hR' hJ' hB' HF HP HR HJ HB E1 hqk e0 e1 e2 e3 e4 e5 e6 e7 f0 f1 f2 f3 f4 f5 f6 f7 g0 g1 g2 g3 g4 g5 g6 g7 j0 j1 dq dr' dz hsum b1' b2' b3' b4' hpos zw
          go_wp2_with fail
          go_roundw
          case rel => exact RR.out
          case measure => simp [intOf]; omega
        · have hkn : k = tw * th := by rw [H2.out]; omega
          have ed : k / tw = th := by rw [hkn]; exact Nat.mul_div_cancel_left _ (by omega)
          have em : k % tw = 0 := by rw [hkn]; exact Nat.mul_mod_right _ _
          rw [ed, em, Nat.add_zero] at hP
          have HP := Lib.hid hP
          clear hP ed em hkn hF hR hJ hB HR HJ j0 j1
          generalize mF 5 P tw Q xa xb (xb + th) xa = P at *
          go_wp2_with fail
          clear hk hlt t1 t2 t3 t4 hpr H2 u4 u5 hN20
          go_loopw [155] (fun i wr => EndRel w fb ib pb wb P i wr) (fun i _ => 20 - (intOf i).toNat)
          case atStart => exact ⟨0, by omega, rfl, HF.out, HP.out, HB.out⟩
          case round =>
            clear HF HP HB
            obtain ⟨k, hk, rfl, hF, hP, hB⟩ := hrel
            have HF := Lib.hid hF
            have HP := Lib.hid hP
            have HB := Lib.hid hB
            have sz := hB.size
            have cf := hF.c
            have zf := hF.lt
            have zw := hP.lt
            clear hF hP hB
            by_cases hlt : k < 20
            · have PY := fun W' (hW : FilmAt W' fb ib pb 5 4 P) => pixel_yes hW ((k : Int) % 5) ((k : Int) / 5) (by omega) (by omega) (by omega) (by omega)
              have ek : ((k : Int) / 5 * ((5 : Nat) : Int) + (k : Int) % 5).toNat = k := by omega
              simp only [ek] at PY
              have SP := samepx_b (P k)
              obtain ⟨e0, e1, e2, e3, e4, e5, e6, e7⟩ := HP.out.cells8 (k := k) (by omega)
              clear ek
              generalize P k = p at *
              obtain ⟨⟨p0, p1, p2, p3, p4, p5⟩, p6, p7⟩ := p
              unfold Px.v at PY SP
              dsimp only at PY SP e0 e1 e2 e3 e4 e5 e6 e7
              replace PY := Lib.hid PY
              replace SP := Lib.hid SP
              go_wp2_with ((with_reducible refine (PY.out _ ?_).mono ?_); (exact HF.out); rintro _ _ ⟨rfl, X7, rfl⟩)
              refine wp_any_world (fun U => FilmAt U fb ib pb 5 4 P ∧ PixAt U wb 20 P ∧ Below w.heap.size w U ∧ Blk U (wr.heap.size + X7.n) [.float .f64 p0, .float .f64 p1, .float .f64 p2, .float .f64 p3, .float .f64 p4, .float .f64 p5, .int .i64 p6, .int .i64 p7] ∧
                U.cell? ⟨wb, k * 8, none⟩ = some (.float .f64 p0) ∧ U.cell? ⟨wb, k * 8 + 1, none⟩ = some (.float .f64 p1) ∧ U.cell? ⟨wb, k * 8 + 2, none⟩ = some (.float .f64 p2) ∧ U.cell? ⟨wb, k * 8 + 3, none⟩ = some (.float .f64 p3) ∧
                U.cell? ⟨wb, k * 8 + 4, none⟩ = some (.float .f64 p4) ∧ U.cell? ⟨wb, k * 8 + 5, none⟩ = some (.float .f64 p5) ∧ U.cell? ⟨wb, k * 8 + 6, none⟩ = some (.int .i64 p6) ∧ U.cell? ⟨wb, k * 8 + 7, none⟩ = some (.int .i64 p7)) ?_ ?_
              · refine ⟨(HF.out.over _).alloc _, (HP.out.over _).alloc _, (HB.out.over sz _).alloc (by simp; omega) _, ?_, ?_, ?_, ?_, ?_, ?_, ?_, ?_, ?_⟩
                · have := Blk.new (wr.over X7) #[.float .f64 p0, .float .f64 p1, .float .f64 p2, .float .f64 p3, .float .f64 p4, .float .f64 p5, .int .i64 p6, .int .i64 p7] 41
                  rw [World.over_size] at this
                  exact this
                all_goals (refine cell_alloc (cell_over ?_ _) _; assumption)
              clear e0 e1 e2 e3 e4 e5 e6 e7 HF HP HB cf zf zw sz PY
              generalize wr.heap.size + X7.n = t20
              rintro U ⟨hF, hP, hB, A, e0, e1, e2, e3, e4, e5, e6, e7⟩
              have HF := Lib.hid hF
              have HP := Lib.hid hP
              have HB := Lib.hid hB
              have sz := hB.size
              have a0 := A.1 0 _ rfl
              have a1 := A.1 1 _ rfl
              have a2 := A.1 2 _ rfl
              have a3 := A.1 3 _ rfl
              have a4 := A.1 4 _ rfl
              have a5 := A.1 5 _ rfl
              have a6 := A.1 6 _ rfl
              have a7 := A.1 7 _ rfl
              simp only [Nat.zero_add] at a0 a1 a2 a3 a4 a5 a6 a7
              have zt := A.lt (by simp)
              have zw := hP.lt
              clear A hF hP hB
              refine wp_region_over0 (by kernel_rfl) (by kernel_rfl) ?_
              repeat (first | go_big_quiet_step (with_reducible exact SP.out.quiet _ _) | quiet_step (with_reducible exact SP.out.quiet _ _))
              refine wpQuiet_nil ?_; intro _ hw'; obtain ⟨X, hw''⟩ := hw'; subst hw''
              go_wp2_with fail
              go_roundw
              case rel => exact ⟨k + 1, by omega, by go_num, HF.out.over _, HP.out.over _, HB.out.over sz _⟩
              case measure => simp [intOf]; omega
            · go_wp2_with fail
              go_ret
              exact ⟨rfl, HB.out⟩
end Go.Proofs.Ytknijppdnfcknaa
