/- A world that has grown behind its last block: what a call leaves that makes memory and changes none. -/
import Derived.WalkKit
import Derived.WalkLawsBesides
import Derived.KernelRfl
import Derived.Lib.Hide
import Derived.BigQuiet
import Derived.Deep.QuietTactic
import Derived.Deep.RegionWith
import Derived.Deep.RegionHeld3
import Derived.Deep.DeepCutAuto
import Derived.StillTailTactics
namespace Go

/-- what has come behind a world's last block, and how many answers have been drawn -/
structure Ext where
  blocks : Array Obj
  drawn : Nat
def Ext.n (X : Ext) : Nat := X.blocks.size

def World.over (w : World) (X : Ext) : World := { w with heap := w.heap ++ X.blocks, drawn := X.drawn }

@[go_sem, simp] theorem World.over_size (w : World) (X : Ext) : (w.over X).heap.size = w.heap.size + X.n := by
  simp [World.over, Ext.n]

@[go_sem] theorem World.over_block (w : World) (X : Ext) (n : Nat) (hn : n < w.heap.size) : (w.over X).heap[n]? = w.heap[n]? := by
  show (w.heap ++ X.blocks)[n]? = _
  rw [Array.getElem?_append_left hn]

@[go_sem] theorem World.cell?_over (w : World) (X : Ext) (n i : Nat) (hn : n < w.heap.size) : (w.over X).cell? ⟨n, i, none⟩ = w.cell? ⟨n, i, none⟩ :=
  World.cell?_of_block (w := w) (World.over_block w X n hn)
@[go_sem] theorem World.frozen?_over (w : World) (X : Ext) (n i : Nat) (hn : n < w.heap.size) : (w.over X).frozen? ⟨n, i, none⟩ = w.frozen? ⟨n, i, none⟩ :=
  World.frozen?_of_block (w := w) (World.over_block w X n hn)
@[go_sem] theorem World.shape?_over (w : World) (X : Ext) (n : Nat) (hn : n < w.heap.size) : (w.over X).shape? n = w.shape? n := by
  unfold World.shape?; rw [World.over_block w X n hn]

@[go_sem] theorem World.setCell_over (w : World) (X : Ext) (n i : Nat) (v : Value) (hn : n < w.heap.size) : (w.over X).setCell ⟨n, i, none⟩ v = (w.setCell ⟨n, i, none⟩ v).over X := by
  unfold World.setCell World.over
  congr 1
  apply Array.ext
  · simp
  · intro k h1 h2
    simp only [Array.getElem_modify, Array.getElem_append]
    by_cases hk : n = k
    · subst hk; simp [hn]
    · simp [hk]

/-- one growth behind the other -/
def Ext.and (X Y : Ext) : Ext := ⟨X.blocks ++ Y.blocks, Y.drawn⟩
theorem Ext.and_n (X Y : Ext) : (X.and Y).n = X.n + Y.n := by simp [Ext.and, Ext.n]
@[go_sem] theorem World.over_over (w : World) (X Y : Ext) : (w.over X).over Y = w.over (X.and Y) := by
  simp [World.over, Ext.and, Array.append_assoc]
@[go_sem] theorem lt_ext1 (a b : Nat) (X : Ext) (h : a < b) : a < b + X.n := by omega
@[go_sem] theorem lt_ext2 (a b k : Nat) (X : Ext) (h : a < b) : a < b + X.n + k := by omega
@[go_sem] theorem World.drew_over (w : World) (X : Ext) : w.drew.over X = w.over X := rfl
theorem World.over_drew (w : World) (X : Ext) : (w.over X).drew = w.over ⟨X.blocks, X.drawn + 1⟩ := rfl

theorem Ext.and_assoc (X Y Z : Ext) : (X.and Y).and Z = X.and (Y.and Z) := by simp [Ext.and, Array.append_assoc]
/-- a region that draws its order, whose operations read or call what makes memory alone: one walk in the order of the text -/
theorem wp_region_over0 {P : Program} {id : Nat} {Q : Exit → Act → World → Prop} {a : Act} {w : World} {l : List Oper} (hm : P.follows .mixedOrders = true) (hB : Region.lexB .any l.toArray = true)
    (h : wpQuiet P l.toArray (fun w' => ∃ X, w' = w.over X) (fun a' => ∀ w', (∃ X, w' = w.over X) → Q .normal a' w') l a) : (Code.region id l.toArray true).wp P Q a w :=
  wp_region_quiet (C := fun w' => ∃ X, w' = w.over X) hm hB ⟨⟨#[], w.drawn + 1⟩, by simp [World.over]⟩ (by simpa using h)
theorem wp_region_over1 {P : Program} {id : Nat} {Q : Exit → Act → World → Prop} {a : Act} {w : World} {X0 : Ext} {l : List Oper} (hm : P.follows .mixedOrders = true) (hB : Region.lexB .any l.toArray = true)
    (h : wpQuiet P l.toArray (fun w' => ∃ X, w' = w.over X) (fun a' => ∀ w', (∃ X, w' = w.over X) → Q .normal a' w') l a) : (Code.region id l.toArray true).wp P Q a (w.over X0) :=
  wp_region_quiet (C := fun w' => ∃ X, w' = w.over X) hm hB ⟨⟨X0.blocks, X0.drawn + 1⟩, rfl⟩ (by simpa using h)
namespace RowKit
theorem Below.over {B : Nat} {a w : World} (h : Below B a w) (hB : B ≤ w.heap.size) (X : Ext) : Below B a (w.over X) :=
  h.trans ⟨rfl, rfl, rfl, by simp, fun k hk => World.over_block w X k (by omega)⟩
theorem Below.is_over {w w' : World} (h : Below w.heap.size w w') : ∃ X, w' = w.over X := by
  refine ⟨⟨w'.heap.extract w.heap.size w'.heap.size, w'.drawn⟩, ?_⟩
  obtain ⟨h1, h2, h3, h4, h5⟩ := h
  cases w' with | mk heap' tape' drawn' os' output' =>
  cases w with | mk heap tape drawn os output =>
  simp only at h1 h2 h3 h4 h5
  subst h1 h2 h3
  unfold World.over
  congr 1
  apply Array.ext_getElem?
  intro i
  show heap'[i]? = (heap ++ heap'.extract heap.size heap'.size)[i]?
  by_cases hi : i < heap.size
  · rw [h5 i hi, Array.getElem?_append_left hi]
  · rw [Array.getElem?_append_right (by omega), Array.getElem?_extract]
    split
    · congr 1; omega
    · rename_i hh
      rw [Array.getElem?_eq_none]
      omega
theorem below_drewN {B : Nat} {a w : World} (h : Below B a w) (n : Nat) : Below B a (w.drewN n) := ⟨h.os, h.tape, h.output, h.size, h.block⟩
end RowKit
end Go
