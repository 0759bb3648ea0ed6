/- The doors of the walks: the library functions that the model has in place, and what each walk needs. -/
import Derived.Test.YtknijppdnfcknaaChecked
import Derived.Test.YtknijppdnfcknaaFc
import Derived.Test.YtknijppdnfcknaaWv
namespace Go.Proofs.Ytknijppdnfcknaa
open Go.RowKit

theorem bcell {W w1 : World} (hb : Below W.heap.size W w1) : (∀ b o, b < W.heap.size → w1.cell? ⟨b, o, none⟩ = W.cell? ⟨b, o, none⟩) ∧ (∀ b o, b < W.heap.size → w1.frozen? ⟨b, o, none⟩ = W.frozen? ⟨b, o, none⟩) :=
  ⟨fun b o h => hb.cell (p := ⟨b, o, none⟩) h, fun b o h => hb.frozen (p := ⟨b, o, none⟩) h⟩

@[go_sem] theorem call_float64bits (x : Nat) (w : World) : (callFunc 48 #[.float .f64 x]).run Try.prog w = .ok (.value (.int .u64 x)) w := by
  rw [run_callFunc_extern Try.func48 (by kernel_rfl) (by kernel_rfl) (by kernel_rfl) (e := Extern.MathFloatBits.float64bits) (by kernel_rfl)]; rfl
@[go_sem] theorem call_float64frombits (x : Int) (w : World) : (callFunc 40 #[.int .u64 x]).run Try.prog w = .ok (.value (.float .f64 x.toNat)) w := by
  rw [run_callFunc_extern Try.func40 (by kernel_rfl) (by kernel_rfl) (by kernel_rfl) (e := Extern.MathFloatBits.float64frombits) (by kernel_rfl)]; rfl
theorem run_add64' {P : Program} (x y c : Nat) (hc : c ≤ 1) (w : World) :
    (add64Entry #[.int .u64 x, .int .u64 y, .int .u64 c]).run P w =
      .ok (.tuple #[.int .u64 ((x + y + c) % 18446744073709551616 : Nat), .int .u64 ((x + y + c) / 18446744073709551616 : Nat)]) w := by
  have : c = 0 ∨ c = 1 := by omega
  rcases this with rfl | rfl <;> rfl
def sub64Entry : Array Value → Sem Value := fun args => do
  let (x, y, b) ← Extern.MathBitsCarry.three "Sub64" args
  pure (Extern.MathBitsCarry.pair ((x + Extern.MathBitsCarry.m64 - y - b) % Extern.MathBitsCarry.m64) (if x < y + b then 1 else 0))
theorem run_sub64' {P : Program} (x y c : Nat) (hc : c ≤ 1) (w : World) :
    (sub64Entry #[.int .u64 x, .int .u64 y, .int .u64 c]).run P w =
      .ok (.tuple #[.int .u64 ((x + 18446744073709551616 - y - c) % 18446744073709551616 : Nat), .int .u64 ((if x < y + c then 1 else 0 : Nat))]) w := by
  have : c = 0 ∨ c = 1 := by omega
  rcases this with rfl | rfl <;> rfl
theorem call_add64 (x y c : Nat) (hc : c ≤ 1) (w : World) : (callFunc 92 #[.int .u64 x, .int .u64 y, .int .u64 c]).run Try.prog w = .ok (.value (.tuple #[.int .u64 ((x + y + c) % 18446744073709551616 : Nat), .int .u64 ((x + y + c) / 18446744073709551616 : Nat)])) w := by
  rw [run_callFunc_extern Try.func92 (by kernel_rfl) (by kernel_rfl) (by kernel_rfl) (e := add64Entry) (by kernel_rfl), run_add64' _ _ _ hc]; rfl
theorem call_sub64 (x y c : Nat) (hc : c ≤ 1) (w : World) : (callFunc 93 #[.int .u64 x, .int .u64 y, .int .u64 c]).run Try.prog w = .ok (.value (.tuple #[.int .u64 ((x + 18446744073709551616 - y - c) % 18446744073709551616 : Nat), .int .u64 ((if x < y + c then 1 else 0 : Nat))])) w := by
  rw [run_callFunc_extern Try.func93 (by kernel_rfl) (by kernel_rfl) (by kernel_rfl) (e := sub64Entry) (by kernel_rfl), run_sub64' _ _ _ hc]; rfl

/-- what a call comes to that leaves the world alone -/
def Qt (f : FuncId) (args : Array Value) (v : Value) : Prop := ∀ w : World, Calls Try.prog f args w fun e w' => e = .returned v ∧ w = w'
/-- what a call comes to that makes memory, and no more -/
def Bl (f : FuncId) (args : Array Value) (v : Value) : Prop := ∀ w : World, Calls Try.prog f args w fun e w' => e = .returned v ∧ Below w.heap.size w w'
theorem Qt.at {f : FuncId} {args : Array Value} {v : Value} (h : Qt f args v) (w : World) : Calls Try.prog f args w fun e w' => e = .returned v ∧ w = w' := h w
theorem Bl.at {f : FuncId} {args : Array Value} {v : Value} (h : Bl f args v) (w : World) : Calls Try.prog f args w fun e w' => e = .returned v ∧ ∃ X, w' = w.over X := (h w).mono fun _ _ ⟨he, hb⟩ => ⟨he, hb.is_over⟩
/-- a call inside a region that is walked once -/
theorem Bl.quiet {f : FuncId} {args : Array Value} {v : Value} (h : Bl f args v) (w : World) (X : Ext) : Calls Try.prog f args (w.over X) fun e w' => e = .returned v ∧ ∃ Y, w' = w.over Y :=
  (h.at (w.over X)).mono fun _ _ ⟨he, Y, hY⟩ => ⟨he, X.and Y, by rw [hY, World.over_over]⟩
theorem Qt.quiet {f : FuncId} {args : Array Value} {v : Value} (h : Qt f args v) (w : World) (X : Ext) : Calls Try.prog f args (w.over X) fun e w' => e = .returned v ∧ ∃ Y, w' = w.over Y :=
  (h.at (w.over X)).mono fun _ _ ⟨he, hw⟩ => ⟨he, X, hw.symm⟩
theorem Qt.bl {f : FuncId} {args : Array Value} {v : Value} (h : Qt f args v) : Bl f args v := fun w => (h w).mono fun _ _ ⟨he, hw⟩ => ⟨he, hw ▸ Below.refl _ _⟩
end Go.Proofs.Ytknijppdnfcknaa
