/- Merge of a tile. -/
import Derived.Test.YtknijppdnfcknaaGc
import Derived.Test.YtknijppdnfcknaaGh
import Derived.LoopTactic
namespace Go.Proofs.Ytknijppdnfcknaa
open Go.RowKit FF

def jobv (a b c d : Int) : Value := .agg #[.int .i64 a, .int .i64 b, .int .i64 c, .int .i64 d]
def jobc (a b c d : Int) : List Value := [.int .i64 a, .int .i64 b, .int .i64 c, .int .i64 d]
theorem cell_alloc {w : World} {b i : Nat} {v : Value} (h : w.cell? ⟨b, i, none⟩ = some v) (o : Obj) : (w.alloc o).cell? ⟨b, i, none⟩ = some v := by
  rw [World.cell?_alloc_lt _ _ _ (World.block_lt_of_cell? w _ h)]; exact h
theorem over_refl' (w : World) : ∃ X, w = w.over X := ⟨⟨#[], w.drawn⟩, by simp [World.over]⟩
set_option maxRecDepth 100000 in
theorem merge_nil (w : World) (fb : Nat) (a b c d : Int) :
    Calls Try.prog 11 #[.pointer (some ⟨fb, 0, none⟩), .pointer none, jobv a b c d] w fun e w' => e = .returned (.int .i64 1) ∧ ∃ X, w' = w.over X := by
  unfold jobv
  go_enter Try.func11, Try.ntmps11
  go_wp2_with fail
  go_ret
  refine ⟨rfl, Below.is_over ?_⟩
  repeat (first | with_reducible exact Below.refl _ _ | with_reducible refine Below.setCell ?_ (by simp <;> omega) _ | with_reducible refine below_drewN ?_ _ | with_reducible refine Below.alloc ?_ (by simp <;> omega) _ | with_reducible refine Below.over ?_ (by simp <;> omega) _ | with_reducible refine Below.drew ?_)
/-- is a job within a film? -/
def jobIn (W H : Nat) (a b c d : Int) : Prop := 0 ≤ a ∧ 0 ≤ b ∧ c ≤ W ∧ d ≤ H ∧ a < c ∧ b < d
set_option maxRecDepth 100000 in
set_option maxHeartbeats 4000000 in
theorem merge_range {w : World} {fb ib pb W H : Nat} {px : Nat → Px} (h : FilmAt w fb ib pb W H px) (gb : Nat) (a b c d : Int) (hn : ¬ jobIn W H a b c d) :
    Calls Try.prog 11 #[.pointer (some ⟨fb, 0, none⟩), .pointer (some ⟨gb, 0, none⟩), jobv a b c d] w fun e w' => e = .returned (.int .i64 2) ∧ ∃ X, w' = w.over X := by
  have I := Lib.hid h.img
  have cf := h.c
  have lt := h.lt
  have SZ := Lib.hid (fun W' (hW : ImgAt W' ib pb W H px) => isize_b hW)
  clear h
  unfold jobv
  unfold jobIn at hn
  by_cases h1 : 0 ≤ a
  · by_cases h2 : 0 ≤ b
    · by_cases h3 : c ≤ W
      · by_cases h4 : d ≤ H
        · by_cases h5 : a < c
          · have h6 : ¬ b < d := fun h6 => hn ⟨h1, h2, h3, h4, h5, h6⟩
            clear hn
            go_enter Try.func11, Try.ntmps11
            go_wp2_with ((with_reducible refine (SZ.out _ ?_).mono ?_); (repeat (first | exact I.out | refine ImgAt.alloc ?_ _ | refine ImgAt.over ?_ _ | refine ImgAt.drew ?_ | refine ImgAt.drewN ?_ _)); rintro _ _ ⟨rfl, X1, rfl⟩)
            go_ret
            refine ⟨rfl, Below.is_over ?_⟩
            repeat (first | with_reducible exact Below.refl _ _ | with_reducible refine Below.setCell ?_ (by simp <;> omega) _ | with_reducible refine below_drewN ?_ _ | with_reducible refine Below.alloc ?_ (by simp <;> omega) _ | with_reducible refine Below.over ?_ (by simp <;> omega) _ | with_reducible refine Below.drew ?_)
          · clear hn
            go_enter Try.func11, Try.ntmps11
            go_wp2_with ((with_reducible refine (SZ.out _ ?_).mono ?_); (repeat (first | exact I.out | refine ImgAt.alloc ?_ _ | refine ImgAt.over ?_ _ | refine ImgAt.drew ?_ | refine ImgAt.drewN ?_ _)); rintro _ _ ⟨rfl, X1, rfl⟩)
            all_goals
              go_ret
              refine ⟨rfl, Below.is_over ?_⟩
              repeat (first | with_reducible exact Below.refl _ _ | with_reducible refine Below.setCell ?_ (by simp <;> omega) _ | with_reducible refine below_drewN ?_ _ | with_reducible refine Below.alloc ?_ (by simp <;> omega) _ | with_reducible refine Below.over ?_ (by simp <;> omega) _ | with_reducible refine Below.drew ?_)
        · clear hn
          go_enter Try.func11, Try.ntmps11
          go_wp2_with ((with_reducible refine (SZ.out _ ?_).mono ?_); (repeat (first | exact I.out | refine ImgAt.alloc ?_ _ | refine ImgAt.over ?_ _ | refine ImgAt.drew ?_ | refine ImgAt.drewN ?_ _)); rintro _ _ ⟨rfl, X1, rfl⟩)
          all_goals
            go_ret
            refine ⟨rfl, Below.is_over ?_⟩
            repeat (first | with_reducible exact Below.refl _ _ | with_reducible refine Below.setCell ?_ (by simp <;> omega) _ | with_reducible refine below_drewN ?_ _ | with_reducible refine Below.alloc ?_ (by simp <;> omega) _ | with_reducible refine Below.over ?_ (by simp <;> omega) _ | with_reducible refine Below.drew ?_)
      · clear hn
        go_enter Try.func11, Try.ntmps11
        go_wp2_with ((with_reducible refine (SZ.out _ ?_).mono ?_); (repeat (first | exact I.out | refine ImgAt.alloc ?_ _ | refine ImgAt.over ?_ _ | refine ImgAt.drew ?_ | refine ImgAt.drewN ?_ _)); rintro _ _ ⟨rfl, X1, rfl⟩)
        all_goals
          go_ret
          refine ⟨rfl, Below.is_over ?_⟩
          repeat (first | with_reducible exact Below.refl _ _ | with_reducible refine Below.setCell ?_ (by simp <;> omega) _ | with_reducible refine below_drewN ?_ _ | with_reducible refine Below.alloc ?_ (by simp <;> omega) _ | with_reducible refine Below.over ?_ (by simp <;> omega) _ | with_reducible refine Below.drew ?_)
    · clear hn
      go_enter Try.func11, Try.ntmps11
      go_wp2_with ((with_reducible refine (SZ.out _ ?_).mono ?_); (repeat (first | exact I.out | refine ImgAt.alloc ?_ _ | refine ImgAt.over ?_ _ | refine ImgAt.drew ?_ | refine ImgAt.drewN ?_ _)); rintro _ _ ⟨rfl, X1, rfl⟩)
      all_goals
        go_ret
        refine ⟨rfl, Below.is_over ?_⟩
        repeat (first | with_reducible exact Below.refl _ _ | with_reducible refine Below.setCell ?_ (by simp <;> omega) _ | with_reducible refine below_drewN ?_ _ | with_reducible refine Below.alloc ?_ (by simp <;> omega) _ | with_reducible refine Below.over ?_ (by simp <;> omega) _ | with_reducible refine Below.drew ?_)
  · clear hn
    go_enter Try.func11, Try.ntmps11
    go_wp2_with ((with_reducible refine (SZ.out _ ?_).mono ?_); (repeat (first | exact I.out | refine ImgAt.alloc ?_ _ | refine ImgAt.over ?_ _ | refine ImgAt.drew ?_ | refine ImgAt.drewN ?_ _)); rintro _ _ ⟨rfl, X1, rfl⟩)
    all_goals
      go_ret
      refine ⟨rfl, Below.is_over ?_⟩
      repeat (first | with_reducible exact Below.refl _ _ | with_reducible refine Below.setCell ?_ (by simp <;> omega) _ | with_reducible refine below_drewN ?_ _ | with_reducible refine Below.alloc ?_ (by simp <;> omega) _ | with_reducible refine Below.over ?_ (by simp <;> omega) _ | with_reducible refine Below.drew ?_)
set_option maxRecDepth 100000 in
set_option maxHeartbeats 4000000 in
theorem merge_size {w : World} {fb ib pb W H gb jb qb tw th : Nat} {px qx : Nat → Px} (h : FilmAt w fb ib pb W H px) (g : FilmAt w gb jb qb tw th qx) (a b c d : Int) (hj : jobIn W H a b c d) (hw : (((tw : Int)) != c - a) = true) :
    Calls Try.prog 11 #[.pointer (some ⟨fb, 0, none⟩), .pointer (some ⟨gb, 0, none⟩), jobv a b c d] w fun e w' => e = .returned (.int .i64 70) ∧ ∃ X, w' = w.over X := by
  have I := Lib.hid h.img
  have J := Lib.hid g.img
  have cf := h.c
  have lt := h.lt
  have cg := g.c
  have ltg := g.lt
  have SZ := Lib.hid (fun W' (hW : ImgAt W' ib pb W H px) => isize_b hW)
  have SG := Lib.hid (fun W' (hW : ImgAt W' jb qb tw th qx) => isize_b hW)
  have hW2 := h.img.w2
  clear h g
  unfold jobv
  obtain ⟨h1, h2, h3, h4, h5, h6⟩ := hj
  go_enter Try.func11, Try.ntmps11
  go_wp2_with (first | ((with_reducible refine (SZ.out _ ?_).mono ?_); (repeat (first | exact I.out | refine ImgAt.alloc ?_ _ | refine ImgAt.over ?_ _ | refine ImgAt.drew ?_ | refine ImgAt.drewN ?_ _)); rintro _ _ ⟨rfl, X1, rfl⟩) | ((with_reducible refine (SG.out _ ?_).mono ?_); (repeat (first | exact J.out | refine ImgAt.alloc ?_ _ | refine ImgAt.over ?_ _ | refine ImgAt.drew ?_)); rintro _ _ ⟨rfl, X2, rfl⟩))
  go_ret
  refine ⟨rfl, Below.is_over ?_⟩
  repeat (first | with_reducible exact Below.refl _ _ | with_reducible refine Below.setCell ?_ (by simp <;> omega) _ | with_reducible refine below_drewN ?_ _ | with_reducible refine Below.alloc ?_ (by simp <;> omega) _ | with_reducible refine Below.over ?_ (by simp <;> omega) _ | with_reducible refine Below.drew ?_)
def MRel (w : World) (t5 fb ib pb W H gb jb qb tw th : Nat) (px qx : Nat → Px) (a b : Nat) (i : Value) (wr : World) : Prop :=
  ∃ y : Nat, b ≤ y ∧ y ≤ b + th ∧ i = .int .i64 y ∧ FilmAt wr fb ib pb W H (mF W px tw qx a b y a) ∧ FilmAt wr gb jb qb tw th qx ∧ Blk wr t5 (jobc a b ((a : Int) + tw) ((b : Int) + th)) ∧ Kept (fun n => n = pb) w wr
def NRel (w : World) (t5 fb ib pb W H gb jb qb tw th : Nat) (px qx : Nat → Px) (a b y : Nat) (i : Value) (wr : World) : Prop :=
  ∃ x : Nat, a ≤ x ∧ x ≤ a + tw ∧ i = .int .i64 x ∧ FilmAt wr fb ib pb W H (mF W px tw qx a b y x) ∧ FilmAt wr gb jb qb tw th qx ∧ Blk wr t5 (jobc a b ((a : Int) + tw) ((b : Int) + th)) ∧ Kept (fun n => n = pb) w wr
def MergePost (w : World) (fb ib pb W H tw th : Nat) (px qx : Nat → Px) (a b : Nat) (e : Ending) (w' : World) : Prop :=
  e = .returned (.int .i64 0) ∧ FilmAt w' fb ib pb W H (mF W px tw qx a b (b + th) a) ∧ Kept (fun n => n = pb) w w'
set_option maxRecDepth 100000 in
set_option maxHeartbeats 4000000 in
theorem merge_ok {w : World} {fb ib pb W H gb jb qb tw th : Nat} {px qx : Nat → Px} (h : FilmAt w fb ib pb W H px) (g : FilmAt w gb jb qb tw th qx) (a b : Nat) (ha : a + tw ≤ W) (hb : b + th ≤ H)
    (n1 : gb ≠ pb) (n2 : jb ≠ pb) (n3 : qb ≠ pb) :
    Calls Try.prog 11 #[.pointer (some ⟨fb, 0, none⟩), .pointer (some ⟨gb, 0, none⟩), jobv a b ((a : Int) + tw) ((b : Int) + th)] w (MergePost w fb ib pb W H tw th px qx a b) := by
  have I := Lib.hid h.img
  have J := Lib.hid g.img
  have HF := Lib.hid h
  have HG := Lib.hid g
  have cf := h.c
  have lt := h.lt
  have cg := g.c
  have ltg := g.lt
  have w2 := h.img.w2
  have h2 := h.img.h2
  have t1 := g.img.w1
  have t2 := g.img.h1
  have SZ := Lib.hid (fun W' (hW : ImgAt W' ib pb W H px) => isize_b hW)
  have SG := Lib.hid (fun W' (hW : ImgAt W' jb qb tw th qx) => isize_b hW)
  have lp := h.img.pix.lt
  clear h g
  unfold jobv
  have e1 : (((tw : Int)) != (a : Int) + tw - a) = false := by rw [show (a : Int) + tw - a = tw by omega]; simp
  have e2 : (((th : Int)) != (b : Int) + th - b) = false := by rw [show (b : Int) + th - b = th by omega]; simp
  have d1 : decide ((a : Int) < 0) = false := by simp
  have d2 : decide ((b : Int) < 0) = false := by simp
  have d3 : decide ((W : Int) < (a : Int) + tw) = false := by simp; omega
  have d4 : decide ((H : Int) < (b : Int) + th) = false := by simp; omega
  have d5 : decide ((a : Int) + tw ≤ a) = false := by simp; omega
  have d6 : decide ((b : Int) + th ≤ b) = false := by simp; omega
  go_enter Try.func11, Try.ntmps11
  go_wp2_with (first | ((with_reducible refine (SZ.out _ ?_).mono ?_); (repeat (first | exact I.out | refine ImgAt.alloc ?_ _ | refine ImgAt.over ?_ _ | refine ImgAt.drew ?_ | refine ImgAt.drewN ?_ _)); rintro _ _ ⟨rfl, X1, rfl⟩) | ((with_reducible refine (SG.out _ ?_).mono ?_); (repeat (first | exact J.out | refine ImgAt.alloc ?_ _ | refine ImgAt.over ?_ _ | refine ImgAt.drew ?_)); rintro _ _ ⟨rfl, X2, rfl⟩))
  have R0 : MRel w w.heap.size fb ib pb W H gb jb qb tw th px qx a b (.int .i64 ((b : Nat) : Int)) ((w.alloc (.cells #[.int .i64 (a : Int), .int .i64 (b : Int), .int .i64 ((a : Int) + tw), .int .i64 ((b : Int) + th)] 24)).over (X1.and X2)) :=
    ⟨b, by omega, by omega, rfl, ((HF.out.alloc _).over _).congr (mF_start W px tw qx a b).symm, (HG.out.alloc _).over _, (Blk.new w _ _).over (by simp) _, (Kept.alloc _ _ _).trans (Kept.over _ _ _)⟩
  replace R0 := Lib.hid R0
  have l1 : fb < w.heap.size := lt
  have l2 : pb ≠ w.heap.size := by omega
  clear HF HG I J SZ SG cf cg d1 d2 d3 d4 d5 d6 e1 e2
  have HT := Lib.hid (rfl : w.heap.size = w.heap.size)
  generalize hT : w.heap.size = t5 at *
  clear HT
  go_loopw [11] (fun i wr => MRel w t5 fb ib pb W H gb jb qb tw th px qx a b i wr) (fun i _ => b + th - (intOf i).toNat)
  case atStart => exact R0.out
  case round =>
    obtain ⟨y, hy1, hy2, rfl, hF, hG, hB, hK⟩ := hrel
    have HF := Lib.hid hF
    have HG := Lib.hid hG
    have HB := Lib.hid hB
    have HK := Lib.hid hK
    have j0 := hB.1 0 _ rfl
    have j1 := hB.1 1 _ rfl
    have j2 := hB.1 2 _ rfl
    have j3 := hB.1 3 _ rfl
    simp only [Nat.zero_add] at j0 j1 j2 j3
    clear hF hG hB hK R0
    by_cases hlt : y < b + th
    · have dy : decide ((y : Int) < (b : Int) + th) = true := by simp; omega
      go_wp2_with fail
      obtain ⟨wo, rfl⟩ : ∃ wo : World, wo = wr := ⟨_, rfl⟩
      go_loopw [12] (fun i wr => NRel w t5 fb ib pb W H gb jb qb tw th px qx a b y i wr) (fun i _ => a + tw - (intOf i).toNat)
      case atStart => exact ⟨a, by omega, by omega, rfl, HF.out, HG.out, HB.out, HK.out⟩
      case round =>
        obtain ⟨x, hx1, hx2, rfl, hF', hG', hB', hK'⟩ := hrel
        clear j0 j1 j2 j3 HF HG HB HK
        have HF := Lib.hid hF'
        have HG := Lib.hid hG'
        have HB := Lib.hid hB'
        have HK := Lib.hid hK'
        have j0 := hB'.1 0 _ rfl
        have j1 := hB'.1 1 _ rfl
        have j2 := hB'.1 2 _ rfl
        have j3 := hB'.1 3 _ rfl
        simp only [Nat.zero_add] at j0 j1 j2 j3
        have cf := hF'.c
        have cg := hG'.c
        clear hF' hG' hB' hK'
        by_cases hltx : x < a + tw
        · have dx : decide ((x : Int) < (a : Int) + tw) = true := by simp; omega
          have AT := fun W' (hW : ImgAt W' jb qb tw th qx) => at_yes hW ((x : Int) - a) ((y : Int) - b) (by omega) (by omega) (by omega) (by omega)
          have ix : (((y : Int) - b) * tw + ((x : Int) - a)).toNat = (y - b) * tw + (x - a) := by
            rw [show (y : Int) - b = ((y - b : Nat) : Int) by omega, show (x : Int) - a = ((x - a : Nat) : Int) by omega]
            rw [← Int.natCast_mul, ← Int.natCast_add, Int.toNat_natCast]
          have ST := fun W' (hW : ImgAt W' ib pb W H (mF W px tw qx a b y x)) => set_yes hW (x : Int) (y : Int) (by omega) (by omega) (by omega) (by omega) (qx ((y - b) * tw + (x - a)))
          have iy : ((y : Int) * W + (x : Int)).toNat = y * W + x := by
            rw [← Int.natCast_mul, ← Int.natCast_add, Int.toNat_natCast]
          have E1 := Lib.hid (mF_step (W := W) px tw qx (a := a) (b := b) (y := y) (x := x) hx1 hltx (by omega) hy1)
          have ilt : y * W + x < W * H := by
            have := Nat.mul_le_mul_right W (show y + 1 ≤ H by omega)
            rw [Nat.add_mul, Nat.one_mul, Nat.mul_comm H W] at this
            omega
          simp only [ix] at AT
          simp only [iy] at ST
          clear ix iy
          have IL := Lib.hid ilt
          clear ilt
          generalize hq : qx ((y - b) * tw + (x - a)) = q at *
          generalize y * W + x = pos at *
          clear hq
          replace AT := Lib.hid AT
          replace ST := Lib.hid ST
          obtain ⟨⟨q0, q1, q2, q3, q4, q5⟩, q6, q7⟩ := q
          unfold Px.v at AT ST
          dsimp only at AT ST
          go_wp2_with fail
          have zt := World.block_lt_of_cell? wr _ j0
          have zg := World.block_lt_of_cell? wr _ cg
          have zf := World.block_lt_of_cell? wr _ cf
          have u1 := World.new_ne wr _ j0
          have u2 := World.new_ne wr _ cg
          have u3 := World.new_ne wr _ j1
          have wx : IntKind.i64.wrap ((x : Int) - a) = (x : Int) - a := by rw [IntKind.wrap_i64]; omega
          have wy : IntKind.i64.wrap ((y : Int) - b) = (y : Int) - b := by rw [IntKind.wrap_i64]; omega
          go_cut [13] (fun s13 wz => ∃ t13, s13 = .pointer (some ⟨t13, 0, none⟩) ∧ wr.heap.size ≤ t13 ∧ Blk wz t13 [.float .f64 q0, .float .f64 q1, .float .f64 q2, .float .f64 q3, .float .f64 q4, .float .f64 q5, .int .i64 q6, .int .i64 q7] ∧ ∃ X, wz = wr.over X)
          case first => as_aux_lemma =>
           go_region_held3 (fun w' => w'.cell? ⟨gb, 0, none⟩ = some (.pointer (some ⟨jb, 0, none⟩)) ∧ w'.cell? ⟨t5, 0, none⟩ = some (.int .i64 (a : Int)) ∧ w'.cell? ⟨t5, 1, none⟩ = some (.int .i64 (b : Int)))
            (first | go_keep | (go_split_ands; (repeat' constructor) <;> (repeat (first | assumption | refine cell_alloc ?_ _ | refine cell_over ?_ _))))
            ((go_at_call 30; (with_reducible refine (AT.out _ ?_).mono ?_); (repeat (first | exact HG.out.img | refine ImgAt.alloc ?_ _ | refine ImgAt.over ?_ _ | refine ImgAt.drew ?_)); rintro _ _ ⟨rfl, X3, rfl⟩))
           all_goals
             go_wp2_with fail
             go_meet
             first
               | exact ⟨_, rfl, (by omega), (by have := Blk.new (wr.over X3) #[.float .f64 q0, .float .f64 q1, .float .f64 q2, .float .f64 q3, .float .f64 q4, .float .f64 q5, .int .i64 q6, .int .i64 q7] 41; rw [World.over_size] at this; exact this), Below.is_over (by repeat (first | with_reducible exact Below.refl _ _ | with_reducible refine Below.setCell ?_ (by simp <;> omega) _ | with_reducible refine below_drewN ?_ _ | with_reducible refine Below.alloc ?_ (by simp <;> omega) _ | with_reducible refine Below.over ?_ (by simp <;> omega) _ | with_reducible refine Below.drew ?_))⟩
               | exact ⟨_, rfl, (by omega), (Blk.new wr _ _).over (by simp) _, Below.is_over (by repeat (first | with_reducible exact Below.refl _ _ | with_reducible refine Below.setCell ?_ (by simp <;> omega) _ | with_reducible refine below_drewN ?_ _ | with_reducible refine Below.alloc ?_ (by simp <;> omega) _ | with_reducible refine Below.over ?_ (by simp <;> omega) _ | with_reducible refine Below.drew ?_))⟩
          case rest => as_aux_lemma =>
            obtain ⟨t13, rfl, ht13, A13, X5, hX5⟩ := hcut
            have HX := Lib.hid hX5
            clear hX5 j0 j1 j2 j3 wx wy AT
            have KP := Lib.hid (Kept.over (fun n => n = pb) wr X5)
            rw [← HX.out] at KP
            have IW := Lib.hid (HX.out ▸ HF.out.over X5 : FilmAt wc fb ib pb W H (mF W px tw qx a b y x))
            have GW := Lib.hid (HX.out ▸ HG.out.over X5 : FilmAt wc gb jb qb tw th qx)
            have BW := Lib.hid (HX.out ▸ HB.out.over (by simp [jobc]) X5 : Blk wc t5 (jobc (a : Int) b ((a : Int) + tw) ((b : Int) + th)))
            have KW := Lib.hid (HX.out ▸ HK.out.trans (Kept.over _ wr X5) : Kept (fun n => n = pb) w wc)
            have cf' := IW.out.c
            have b0 := A13.1 0 _ rfl
            have b1 := A13.1 1 _ rfl
            have b2 := A13.1 2 _ rfl
            have b3 := A13.1 3 _ rfl
            have b4 := A13.1 4 _ rfl
            have b5 := A13.1 5 _ rfl
            have b6 := A13.1 6 _ rfl
            have b7 := A13.1 7 _ rfl
            simp only [Nat.zero_add] at b0 b1 b2 b3 b4 b5 b6 b7
            clear A13 cf cg HF HG HB HK HX KP
            go_wp2_with fail
            go_region_with ((go_at_call 31; (with_reducible refine (ST.out _ ?_).mono ?_); (repeat (first | exact IW.out.img | refine ImgAt.alloc ?_ _ | refine ImgAt.over ?_ _ | refine ImgAt.drew ?_)); rintro _ _ ⟨rfl, X4, rfl⟩))
            all_goals
              go_wp2_with fail
              go_roundw
              case rel =>
                have K2 : Kept (fun n => n = pb) wc ((wc.drew.setCells pb (pos * 8) (Px.cells ⟨⟨q0, q1, q2, q3, q4, q5⟩, q6, q7⟩)).over X4) := ((Kept.drew _ wc).trans (Kept.setCells (p := fun n => n = pb) wc.drew rfl _ _)).trans (Kept.over _ _ _)
                refine ⟨x + 1, by omega, by omega, by go_num, ?_, ?_, ?_, ?_⟩
                · exact (((IW.out.drew).set IL.out ⟨⟨q0, q1, q2, q3, q4, q5⟩, q6, q7⟩).over _).congr E1.out
                · exact GW.out.kept K2 n1 n2 n3
                · exact BW.out.kept K2 (fun e => l2 e.symm) (by simp [jobc])
                · exact KW.out.trans K2
              case measure => simp [intOf]; omega
        · have dx : decide ((x : Int) < (a : Int) + tw) = false := by simp; omega
          have EX := Lib.hid (show x = a + tw by omega)
          clear hltx hx1 hx2
          go_wp2_with fail
          go_roundw
          case rel =>
            refine ⟨y + 1, by omega, by omega, by go_num, ?_, HG.out, HB.out, HK.out⟩
            have := HF.out
            rw [EX.out, mF_row] at this
            exact this
          case measure => simp [intOf]; omega
    · have dy : decide ((y : Int) < (b : Int) + th) = false := by simp; omega
      have EY := Lib.hid (show y = b + th by omega)
      clear hlt hy1 hy2
      go_wp2_with fail
      go_ret
      refine ⟨rfl, ?_, HK.out⟩
      rw [← EY.out]
      exact HF.out
end Go.Proofs.Ytknijppdnfcknaa
