/- Samples in memory; the law's look at their validity. -/
import Derived.Test.YtknijppdnfcknaaGd
import Derived.LoopTactic
namespace Go.Proofs.Ytknijppdnfcknaa
open Go.RowKit FF

/-- a sample at a place -/
structure Dr where
  x : Int
  y : Int
  l : C3
  dim : Bool
def Dr.cells (d : Dr) : List Value := [.int .i64 d.x, .int .i64 d.y, .float .f64 d.l.a, .float .f64 d.l.b, .float .f64 d.l.c, .float .f64 d.l.d, .float .f64 d.l.e, .float .f64 d.l.f, .bool d.dim]
/-- n samples lie in block b from cell o on -/
structure DrAt (w : World) (b o n : Nat) (dr : Nat → Dr) : Prop where
  lt : b < w.heap.size
  range : ∀ i, i < n → w.rangeAt b (o + i * 9) (dr i).cells
  ok : ∀ i, i < n → (dr i).l.ok
  len : n ≤ 9223372036854775807
theorem DrAt.of_block {w w' : World} {b o n : Nat} {dr : Nat → Dr} (h : DrAt w b o n dr) (hb : w'.heap[b]? = w.heap[b]?) : DrAt w' b o n dr := by
  refine ⟨?_, fun i hi j v hv => ?_, h.ok, h.len⟩
  · have := h.lt
    by_cases hlt : b < w'.heap.size
    · exact hlt
    · rw [Array.getElem?_eq_none (by omega), Array.getElem?_eq_getElem this] at hb; cases hb
  · rw [cell_block hb]; exact h.range i hi j v hv
theorem DrAt.kept {p : Nat → Prop} {w w' : World} {b o n : Nat} {dr : Nat → Dr} (h : DrAt w b o n dr) (hk : Kept p w w') (hb : ¬ p b) : DrAt w' b o n dr := h.of_block (hk.block b h.lt hb)
theorem DrAt.over {w : World} {b o n : Nat} {dr : Nat → Dr} (h : DrAt w b o n dr) (X : Ext) : DrAt (w.over X) b o n dr := h.of_block (World.over_block w X b h.lt)
theorem DrAt.cells9 {w : World} {b o n : Nat} {dr : Nat → Dr} (h : DrAt w b o n dr) {k : Nat} (hk : k < n) :
    w.cell? ⟨b, o + k * 9, none⟩ = some (.int .i64 (dr k).x) ∧ w.cell? ⟨b, o + k * 9 + 1, none⟩ = some (.int .i64 (dr k).y) ∧
    w.cell? ⟨b, o + k * 9 + 2, none⟩ = some (.float .f64 (dr k).l.a) ∧ w.cell? ⟨b, o + k * 9 + 3, none⟩ = some (.float .f64 (dr k).l.b) ∧ w.cell? ⟨b, o + k * 9 + 4, none⟩ = some (.float .f64 (dr k).l.c) ∧
    w.cell? ⟨b, o + k * 9 + 5, none⟩ = some (.float .f64 (dr k).l.d) ∧ w.cell? ⟨b, o + k * 9 + 6, none⟩ = some (.float .f64 (dr k).l.e) ∧ w.cell? ⟨b, o + k * 9 + 7, none⟩ = some (.float .f64 (dr k).l.f) ∧
    w.cell? ⟨b, o + k * 9 + 8, none⟩ = some (.bool (dr k).dim) :=
  have r := h.range k hk
  ⟨r 0 _ rfl, r 1 _ rfl, r 2 _ rfl, r 3 _ rfl, r 4 _ rfl, r 5 _ rfl, r 6 _ rfl, r 7 _ rfl, r 8 _ rfl⟩
theorem over_refl (w : World) : w = w.over ⟨#[], w.drawn⟩ := by simp [World.over]
def ValPost (w : World) (n : Nat) (dr : Nat → Dr) (e : Ending) (w' : World) : Prop :=
  ∃ b : Bool, e = .returned (.bool b) ∧ (b = true → ∀ i, i < n → (dr i).l.val = true) ∧ ∃ X, w' = w.over X
def ValRel (w : World) (n : Nat) (dr : Nat → Dr) (i : Value) (wr : World) : Prop :=
  ∃ k : Nat, k ≤ n ∧ i = .int .i64 k ∧ (∀ j, j < k → (dr j).l.val = true) ∧ ∃ X, wr = w.over X
set_option maxRecDepth 100000 in
theorem valid_b {w : World} {b o n : Nat} {dr : Nat → Dr} (h : DrAt w b o n dr) (cap : Nat) :
    Calls Try.prog 8 #[.slice (some ⟨b, o, none⟩) n cap] w (ValPost w n dr) := by
  have D := Lib.hid h
  have len := h.len
  have lt := h.lt
  clear h
  go_enter Try.func8, Try.ntmps8
  go_wp2_with fail
  go_loopw [6] (fun i wr => ValRel w n dr i wr) (fun i _ => n - (intOf i).toNat)
  case atStart => exact ⟨0, by omega, rfl, fun j hj => by omega, ⟨#[], w.drawn⟩, over_refl w⟩
  case round =>
    obtain ⟨k, hk, rfl, hall, X, rfl⟩ := hrel
    have HA := Lib.hid hall
    clear hall
    by_cases hlt : k < n
    · obtain ⟨_, _, c2, c3, c4, c5, c6, c7, _⟩ := D.out.cells9 hlt
      have V := valid3_b (dr k).l
      obtain ⟨bv, hbv⟩ : ∃ b, (dr k).l.val = b := ⟨_, rfl⟩
      rw [hbv] at V
      unfold C3.v at V
      have HB := Lib.hid hbv
      have V := Lib.hid V
      clear hbv
      generalize (dr k).l.a = s0 at *
      generalize (dr k).l.b = s1 at *
      generalize (dr k).l.c = s2 at *
      generalize (dr k).l.d = s3 at *
      generalize (dr k).l.e = s4 at *
      generalize (dr k).l.f = s5 at *
      cases bv
      · go_wp2_with (((with_reducible refine ((V.out).at _).mono ?_); rintro _ _ ⟨rfl, X1, rfl⟩))
        go_ret
        exact ⟨false, rfl, (fun h => by cases h), ⟨_, rfl⟩⟩
      · go_wp2_with (((with_reducible refine ((V.out).at _).mono ?_); rintro _ _ ⟨rfl, X1, rfl⟩))
        go_roundw
        case rel =>
          refine ⟨k + 1, by omega, by go_num, fun j hj => ?_, Below.is_over (by repeat (first | with_reducible exact Below.refl _ _ | with_reducible refine Below.setCell ?_ (by simp <;> omega) _ | with_reducible refine below_drewN ?_ _ | with_reducible refine Below.alloc ?_ (by simp <;> omega) _ | with_reducible refine Below.over ?_ (by simp <;> omega) _ | with_reducible refine Below.drew ?_))⟩
          by_cases e : j = k
          · subst e; exact HB.out
          · exact HA.out j (by omega)
        case measure => simp [intOf]; omega
    · go_wp2_with fail
      go_ret
      exact ⟨true, rfl, fun _ j hj => HA.out j (by omega), X, rfl⟩
end Go.Proofs.Ytknijppdnfcknaa
