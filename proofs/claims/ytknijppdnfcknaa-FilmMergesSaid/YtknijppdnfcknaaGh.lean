/- A tile's pixels in the place of a film's: plain laws. -/
import Derived.Test.YtknijppdnfcknaaGa
namespace Go.Proofs.Ytknijppdnfcknaa
open Go.RowKit

/-- the pixels of a film of width W, a tile of width tw at (a, b) merged as far as (x, y) -/
def mF (W : Nat) (px : Nat → Px) (tw : Nat) (qx : Nat → Px) (a b y x : Nat) : Nat → Px := fun i =>
  if a ≤ i % W ∧ i % W < a + tw ∧ b ≤ i / W ∧ (i / W < y ∨ i / W = y ∧ i % W < x) then qx ((i / W - b) * tw + (i % W - a)) else px i
theorem mF_start (W : Nat) (px : Nat → Px) (tw : Nat) (qx : Nat → Px) (a b : Nat) : mF W px tw qx a b b a = px := by
  funext i
  unfold mF
  rw [if_neg (by omega)]
theorem mF_row (W : Nat) (px : Nat → Px) (tw : Nat) (qx : Nat → Px) (a b y : Nat) : mF W px tw qx a b y (a + tw) = mF W px tw qx a b (y + 1) a := by
  funext i
  unfold mF
  by_cases h : a ≤ i % W ∧ i % W < a + tw ∧ b ≤ i / W ∧ (i / W < y ∨ i / W = y ∧ i % W < a + tw)
  · rw [if_pos h, if_pos (by omega)]
  · rw [if_neg h, if_neg (by omega)]
theorem mF_step {W : Nat} (px : Nat → Px) (tw : Nat) (qx : Nat → Px) {a b y x : Nat} (hx : a ≤ x) (hx2 : x < a + tw) (hxW : x < W) (hy : b ≤ y) :
    upd (mF W px tw qx a b y x) (y * W + x) (qx ((y - b) * tw + (x - a))) = mF W px tw qx a b y (x + 1) := by
  funext i
  unfold upd
  have hW : 0 < W := by omega
  have e1 : (y * W + x) % W = x := by rw [Nat.mul_comm, Nat.mul_add_mod]; exact Nat.mod_eq_of_lt hxW
  have e2 : (y * W + x) / W = y := by rw [Nat.mul_comm, Nat.mul_add_div hW, Nat.div_eq_of_lt hxW]; omega
  by_cases h : i = y * W + x
  · rw [if_pos h]
    subst h
    unfold mF
    rw [e1, e2, if_pos (by omega)]
  · rw [if_neg h]
    unfold mF
    have hne : ¬ (i / W = y ∧ i % W = x) := by
      rintro ⟨h1, h2⟩
      apply h
      have := Nat.div_add_mod i W
      rw [h1, h2, Nat.mul_comm] at this
      exact this.symm
    by_cases hc : a ≤ i % W ∧ i % W < a + tw ∧ b ≤ i / W ∧ (i / W < y ∨ i / W = y ∧ i % W < x)
    · rw [if_pos hc, if_pos (by omega)]
    · rw [if_neg hc, if_neg (by omega)]
theorem ImgAt.congr {w : World} {ib pb W H : Nat} {px qx : Nat → Px} (h : ImgAt w ib pb W H px) (e : px = qx) : ImgAt w ib pb W H qx := e ▸ h
theorem FilmAt.congr {w : World} {fb ib pb W H : Nat} {px qx : Nat → Px} (h : FilmAt w fb ib pb W H px) (e : px = qx) : FilmAt w fb ib pb W H qx := e ▸ h
end Go.Proofs.Ytknijppdnfcknaa
