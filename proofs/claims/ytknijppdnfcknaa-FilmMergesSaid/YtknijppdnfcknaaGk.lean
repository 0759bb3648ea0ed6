/- The samples as the law gets them (none, or a row of them). -/
import Derived.Test.YtknijppdnfcknaaGg
import Derived.Test.YtknijppdnfcknaaGh
namespace Go.Proofs.Ytknijppdnfcknaa
open Go.RowKit FF

/-- the samples of an argument: none, or a row -/
def IsDr (w : World) (a : Option Addr) (n : Nat) (dr : Nat → Dr) : Prop := n = 0 ∨ ∃ b o, a = some ⟨b, o, none⟩ ∧ DrAt w b o n dr
theorem IsDr.kept {p : Nat → Prop} {w w' : World} {a : Option Addr} {n : Nat} {dr : Nat → Dr} (h : IsDr w a n dr) (hk : Kept p w w') (hp : ∀ b, b < w.heap.size → ¬ p b) : IsDr w' a n dr := by
  rcases h with h | ⟨b, o, ha, hd⟩
  · exact .inl h
  · exact .inr ⟨b, o, ha, hd.kept hk (hp b hd.lt)⟩
theorem IsDr.below {w w' : World} {a : Option Addr} {n : Nat} {dr : Nat → Dr} (h : IsDr w a n dr) (hb : Below w.heap.size w w') : IsDr w' a n dr :=
  h.kept (p := fun _ => False) (Kept.of_below hb) (fun _ _ => id)
set_option maxRecDepth 100000 in
theorem valid_any {w : World} {a : Option Addr} {n : Nat} {dr : Nat → Dr} (h : IsDr w a n dr) (cap : Nat) : Calls Try.prog 8 #[.slice a n cap] w (ValPost w n dr) := by
  rcases h with rfl | ⟨b, o, rfl, hd⟩
  · go_enter Try.func8, Try.ntmps8
    go_wp2_with fail
    refine wp_loop_rounds 1 ?_
    rw [rounds_succ]
    go_wp2_with fail
    go_ret
    exact ⟨true, rfl, fun _ i hi => by omega, _, over_refl w⟩
  · exact valid_b hd cap
set_option maxRecDepth 100000 in
set_option maxHeartbeats 1000000 in
theorem dropped_any {w : World} {a : Option Addr} {n : Nat} {dr : Nat → Dr} (h : IsDr w a n dr) (cap W H : Nat) (w1 : 1 ≤ W) (w2 : W ≤ 1024) (h1 : 1 ≤ H) (h2 : H ≤ 1024) (hp : W * H ≤ 65536) :
    Calls Try.prog 9 #[.int .i64 (W : Int), .int .i64 (H : Int), .slice a n cap] w (DropPost w W H n dr) := by
  rcases h with rfl | ⟨b, o, rfl, hd⟩
  · have NF := Lib.hid (fnew_b w W H w1 w2 h1 h2 hp)
    have e : wrap64 ((W : Int) * H) = ((W * H : Nat) : Int) := by
      have e' : (W : Int) * H = ((W * H : Nat) : Int) := by simp
      rw [e']; unfold wrap64; omega
    have mk := Lib.hid (fun w => PixAt.made (w := w) (n := W * H) (cs := madeCells pz.cells.toArray (W * H * 8)) (T := 41) (size_madeCells _ _) (fun i hi j v h => madePx hi h))
    obtain ⟨N, hN'⟩ : ∃ N, W * H = N := ⟨W * H, rfl⟩
    rw [hN'] at e hp mk
    have hN := Lib.hid hN'
    clear hN' w1 w2 h1 h2
    have hm := fun w => makePx N (by omega) w
    go_enter Try.func9, Try.ntmps9
    go_wp2_with ((with_reducible refine (NF.out).mono ?_); rintro _ w1 ⟨fb, ib, pb, rfl, hf, hb, l1, l2, l3⟩)
    have F1 := Lib.hid hf
    have B1 := Lib.hid hb
    have sz1 := hb.size
    have k1 := hf.lt
    have k2 := hf.img.lt
    have k3 := hf.img.pix.lt
    clear hf hb
    go_wp2_with fail
    refine wp_loop_rounds 1 ?_
    rw [rounds_succ]
    go_wp2_with fail
    go_ret3
    refine ⟨fb, ib, pb, w1.heap.size, (by rw [hN.out]; rfl), ?_, ?_, B1.out.alloc sz1 _, l1, l2, l3, sz1, by omega, by omega, by omega⟩
    · exact F1.out.alloc _
    · rw [hN.out]; exact mk.out w1
  · exact dropped_b hd cap W H w1 w2 h1 h2 hp
theorem mF_next {px qx : Nat → Px} {tw a b k : Nat} {W : Nat} (ht : 1 ≤ tw) (hW : a + tw ≤ W) :
    upd (mF W px tw qx a b (b + k / tw) (a + k % tw)) ((b + k / tw) * W + (a + k % tw)) (qx k) = mF W px tw qx a b (b + (k + 1) / tw) (a + (k + 1) % tw) := by
  have hm := Nat.mod_lt k (show 0 < tw by omega)
  have h3 := Nat.div_add_mod k tw
  have e1 : k % tw + 1 = tw → (k + 1) % tw = 0 ∧ (k + 1) / tw = k / tw + 1 := by
    intro hc
    have hk1 : k + 1 = tw * (k / tw + 1) := by rw [Nat.mul_add, Nat.mul_one]; omega
    refine ⟨?_, ?_⟩
    · rw [hk1]; exact Nat.mul_mod_right _ _
    · rw [hk1]; exact Nat.mul_div_cancel_left _ (by omega)
  have e2 : k % tw + 1 < tw → (k + 1) % tw = k % tw + 1 ∧ (k + 1) / tw = k / tw := by
    intro hc
    have hk1 : k + 1 = tw * (k / tw) + (k % tw + 1) := by omega
    refine ⟨?_, ?_⟩
    · have := Nat.mul_add_mod tw (k / tw) (k % tw + 1)
      rw [← hk1, Nat.mod_eq_of_lt hc] at this
      exact this
    · have := Nat.mul_add_div (show 0 < tw by omega) (k / tw) (k % tw + 1)
      rw [← hk1, Nat.div_eq_of_lt hc] at this
      omega
  generalize hq : k / tw = q at *
  generalize hr : k % tw = r at *
  have hs := mF_step (W := W) px tw qx (a := a) (b := b) (y := b + q) (x := a + r) (by omega) (by omega) (by omega) (by omega)
  have e : (b + q - b) * tw + (a + r - a) = k := by
    rw [show b + q - b = q by omega, show a + r - a = r by omega, Nat.mul_comm]
    exact h3
  rw [e] at hs
  rw [hs]
  by_cases hc : r + 1 = tw
  · obtain ⟨g1, g2⟩ := e1 hc
    rw [g1, g2, Nat.add_zero, show a + r + 1 = a + tw by omega, mF_row]
    rfl
  · obtain ⟨g1, g2⟩ := e2 (by omega)
    rw [g1, g2]
    rfl
end Go.Proofs.Ytknijppdnfcknaa
