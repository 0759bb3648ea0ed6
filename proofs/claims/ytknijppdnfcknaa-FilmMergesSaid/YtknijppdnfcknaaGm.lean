/- How the samples of an argument read. -/
import Derived.Test.YtknijppdnfcknaaGk
import Derived.ProofKit
import Derived.OpenShut
import Derived.Deep.Slices
import Derived.Lib.SmallJoins
namespace Go.Proofs.Ytknijppdnfcknaa
open Go.ChangeShapes Go.WideShapes Go.ChangeAt Go.RowKit

section
variable {H : Type} {enc : TypeId × Value → H} {w : World} {base : Nat} {spare : Nat → Bool} {held : Bool} {fuel : Nat} {cs : List Value} {x : DataW H × List MemPlace}
theorem trod_float {P : Program} {t : TypeId} {k : FloatKind} (ht : P.underlying t = some (.float k)) (h : DataW.trod enc P w base spare held fuel t cs = some x) : ∃ b, cs = [.float k b] ∧ x = (.lit (.float k b), []) ∧ (Lit.float k b).wf = true := by
  cases fuel with
  | zero => simp [DataW.trod] at h
  | succ n =>
    unfold DataW.trod at h
    rw [ht] at h
    split at h <;> simp_all
theorem trod_float64 {P : Program} {t : TypeId} (ht : P.underlying t = some (.float .f64)) (h : DataW.trod enc P w base spare held fuel t cs = some x) : ∃ b, cs = [.float .f64 b] ∧ b < 18446744073709551616 := by
  obtain ⟨b, h1, _, h2⟩ := trod_float ht h
  exact ⟨b, h1, by simpa [Lit.wf] using h2⟩
theorem cellsSpan : Try.prog.cellsOf 37 = 2 := by kernel_rfl
theorem cellsV3 : Try.prog.cellsOf 39 = 6 := by kernel_rfl
theorem cellsFl : Try.prog.cellsOf 35 = 1 := by kernel_rfl
theorem cellsInt : Try.prog.cellsOf 3 = 1 := by kernel_rfl
theorem cellsBool : Try.prog.cellsOf 4 = 1 := by kernel_rfl
theorem cellsDrop : Try.prog.cellsOf 52 = 9 := by kernel_rfl
theorem read_span {a b : Value} (h : DataW.trod enc Try.prog w base spare held fuel 37 [a, b] = some x) : ∃ p q, a = .float .f64 p ∧ b = .float .f64 q ∧ p < 18446744073709551616 ∧ q < 18446744073709551616 := by
  obtain ⟨y0, y1, n, _, _, h0, h1⟩ := trod_struct2 Try.underlying37 h
  simp only [cellsFl] at h0 h1
  obtain ⟨p, e0, hp⟩ := trod_float64 Try.underlying35 h0
  obtain ⟨q, e1, hq⟩ := trod_float64 Try.underlying35 h1
  simp at e0 e1
  exact ⟨p, q, e0, e1, hp, hq⟩
theorem read_v3 {a b c d e f : Value} (h : DataW.trod enc Try.prog w base spare held fuel 39 [a, b, c, d, e, f] = some x) :
    ∃ s : C3, s.ok ∧ a = .float .f64 s.a ∧ b = .float .f64 s.b ∧ c = .float .f64 s.c ∧ d = .float .f64 s.d ∧ e = .float .f64 s.e ∧ f = .float .f64 s.f := by
  obtain ⟨xs, m, _, _, _, hl, hx⟩ := DataW.trod_array Try.underlying39 h
  match xs, hl with
  | [x0, x1, x2], _ =>
    have h0 := hx 0 (by omega)
    have h1 := hx 1 (by omega)
    have h2 := hx 2 (by omega)
    simp [cellsSpan] at h0 h1 h2
    obtain ⟨p0, q0, e0, f0, g0, k0⟩ := read_span h0
    obtain ⟨p1, q1, e1, f1, g1, k1⟩ := read_span h1
    obtain ⟨p2, q2, e2, f2, g2, k2⟩ := read_span h2
    exact ⟨⟨p0, q0, p1, q1, p2, q2⟩, ⟨g0, k0, g1, k1, g2, k2⟩, e0, f0, e1, f1, e2, f2⟩
theorem read_drop (hl : cs.length = 9) (h : DataW.trod enc Try.prog w base spare held fuel 52 cs = some x) : ∃ d : Dr, cs = d.cells ∧ d.l.ok := by
  match cs, hl with
  | [c0, c1, c2, c3, c4, c5, c6, c7, c8], _ =>
    obtain ⟨y0, y1, y2, y3, n, _, _, h0, h1, h2, h3⟩ := Joins.trod_struct4 Try.underlying52 h
    simp [cellsInt, cellsV3, cellsBool] at h0 h1 h2 h3
    obtain ⟨a, e0, _, _⟩ := DataW.trod_int Try.underlying3 h0
    obtain ⟨b, e1, _, _⟩ := DataW.trod_int Try.underlying3 h1
    obtain ⟨s, hs, e2, e3, e4, e5, e6, e7⟩ := read_v3 h2
    obtain ⟨m, e8, _⟩ := DataW.trod_bool Try.underlying4 h3
    simp at e0 e1 e8
    exact ⟨⟨a, b, s, m⟩, by unfold Dr.cells; rw [e0, e1, e2, e3, e4, e5, e6, e7, e8], hs⟩
end
theorem read_drops {H : Type} {enc : TypeId × Value → H} {W : World} {a : Option Addr} {len cap : Nat} {d : DataW H} {p : List MemPlace}
    (h : DataW.Trod enc Try.prog W 0 (fun _ => true) true 22 (.slice a len cap) d p) : ∃ dr, IsDr W a len dr := by
  obtain ⟨fuel, hf⟩ := h
  rcases Deep.open_slice Try.underlying22 hf with ⟨hcs, _⟩ | ⟨x, l, c, m, nn, D, Pl, hcs, hb, hl, hm, hmm, _, hx⟩
  · simp [Value.cells] at hcs
    exact ⟨fun _ => ⟨0, 0, ⟨0, 0, 0, 0, 0, 0⟩, false⟩, .inl hcs.2.1⟩
  · simp [Value.cells] at hcs
    obtain ⟨rfl, rfl, rfl⟩ := hcs
    simp at hmm
    subst hmm
    by_cases hz : len = 0
    · exact ⟨fun _ => ⟨0, 0, ⟨0, 0, 0, 0, 0, 0⟩, false⟩, .inl hz⟩
    · have : Inhabited Dr := ⟨⟨0, 0, ⟨0, 0, 0, 0, 0, 0⟩, false⟩⟩
      obtain ⟨dr, hdr⟩ := Deep.choose_lt (α := Dr) (n := len) (p := fun i dd => dd.l.ok ∧ ∀ j v, dd.cells[j]? = some v → W.cell? (x.add (i * 9 + j)) = some v) (fun i hi => by
        obtain ⟨cs', h1, h2⟩ := hx i (by omega)
        rw [cellsDrop] at h1
        obtain ⟨_, hlen, hget⟩ := World.cells?_some h1
        obtain ⟨dd, hd, hok⟩ := read_drop hlen h2
        refine ⟨dd, hok, fun j v hv => ?_⟩
        have hj : j < 9 := by have := (List.getElem?_eq_some_iff.1 hv).1; simpa [Dr.cells] using this
        have := hget j hj
        rw [Deep.add_add, hd, hv] at this
        exact this)
      obtain ⟨b, off, spot⟩ := x
      have h0 := (hdr 0 (by omega)).2 0 _ rfl
      have hspot : spot = none := by simpa [Addr.add] using World.cell?_spot h0
      subst hspot
      have ha : ∀ k, (⟨b, off, none⟩ : Addr).add k = ⟨b, off + k, none⟩ := fun k => Addr.add_mid b off k
      refine ⟨dr, .inr ⟨b, off, rfl, ?_, fun i hi j v hv => ?_, fun i hi => (hdr i hi).1, ?_⟩⟩
      · rw [ha] at h0
        exact World.block_lt_of_cell? W _ h0
      · have := (hdr i hi).2 j v hv
        rw [ha, ← Nat.add_assoc] at this
        exact this
      · unfold maxLen at hm; omega
end Go.Proofs.Ytknijppdnfcknaa
