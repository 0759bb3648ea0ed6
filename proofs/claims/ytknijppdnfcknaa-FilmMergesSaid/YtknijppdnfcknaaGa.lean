/- Pixels in memory: where they lie, and what becomes of them when the world goes on. -/
import Derived.Test.YtknijppdnfcknaaWv
import Derived.Deep.MidRow
import Derived.Deep.WholeRow
import Derived.Deep.Draws
namespace Go.Proofs.Ytknijppdnfcknaa
open Go.RowKit

theorem World.heap_setCells (w : World) (b o : Nat) (vs : List Value) (n : Nat) (h : n ≠ b) : (w.setCells b o vs).heap[n]? = w.heap[n]? := by
  induction vs generalizing w o with
  | nil => rfl
  | cons v r ih =>
    rw [World.setCells, ih]
    unfold World.setCell
    simp only [Array.getElem?_modify]
    rw [if_neg (by simpa using fun e => h e.symm)]
theorem World.size_setCells (w : World) (b o : Nat) (vs : List Value) : (w.setCells b o vs).heap.size = w.heap.size := by
  induction vs generalizing w o with
  | nil => rfl
  | cons v r ih => rw [World.setCells, ih]; simp [World.setCell]
theorem World.setCells_over (w : World) (X : Ext) (b o : Nat) (vs : List Value) (hb : b < w.heap.size) : (w.over X).setCells b o vs = (w.setCells b o vs).over X := by
  induction vs generalizing w o with
  | nil => rfl
  | cons v r ih =>
    rw [World.setCells, World.setCells, World.setCell_over _ _ _ _ _ hb, ih]
    simpa [World.setCell] using hb
theorem World.setCells_drew (w : World) (b o : Nat) (vs : List Value) : w.drew.setCells b o vs = (w.setCells b o vs).drew := by
  induction vs generalizing w o with
  | nil => rfl
  | cons v r ih => rw [World.setCells, World.setCells, World.setCell_drew, ih]

theorem cell_block {w w' : World} {b : Nat} (h : w'.heap[b]? = w.heap[b]?) (i : Nat) : w'.cell? ⟨b, i, none⟩ = w.cell? ⟨b, i, none⟩ := World.cell?_of_block h
theorem froz_block {w w' : World} {b : Nat} (h : w'.heap[b]? = w.heap[b]?) (i : Nat) : w'.frozen? ⟨b, i, none⟩ = w.frozen? ⟨b, i, none⟩ := World.frozen?_of_block h

/-- a world in which all old blocks but one are as they were -/
structure Kept (p : Nat → Prop) (w w' : World) : Prop where
  os : w'.os = w.os
  tape : w'.tape = w.tape
  output : w'.output = w.output
  size : w.heap.size ≤ w'.heap.size
  block : ∀ b, b < w.heap.size → ¬ p b → w'.heap[b]? = w.heap[b]?
theorem Kept.trans {p : Nat → Prop} {a b c : World} (h : Kept p a b) (k : Kept p b c) : Kept p a c :=
  ⟨k.os.trans h.os, k.tape.trans h.tape, k.output.trans h.output, Nat.le_trans h.size k.size, fun n hn hp => (k.block n (Nat.lt_of_lt_of_le hn h.size) hp).trans (h.block n hn hp)⟩
theorem Kept.refl (p : Nat → Prop) (w : World) : Kept p w w := ⟨rfl, rfl, rfl, Nat.le_refl _, fun _ _ _ => rfl⟩
theorem Kept.over (p : Nat → Prop) (w : World) (X : Ext) : Kept p w (w.over X) := ⟨rfl, rfl, rfl, by simp, fun b hb _ => World.over_block w X b hb⟩
theorem Kept.setCells {p : Nat → Prop} (w : World) {b : Nat} (hb : p b) (o : Nat) (vs : List Value) : Kept p w (w.setCells b o vs) := by
  have key : ∀ (vs : List Value) (o : Nat) (w : World), (w.setCells b o vs).os = w.os ∧ (w.setCells b o vs).tape = w.tape ∧ (w.setCells b o vs).output = w.output := by
    intro vs
    induction vs with
    | nil => intro o w; exact ⟨rfl, rfl, rfl⟩
    | cons v r ih => intro o w; rw [World.setCells]; exact ih _ _
  obtain ⟨h1, h2, h3⟩ := key vs o w
  exact ⟨h1, h2, h3, by rw [World.size_setCells]; exact Nat.le_refl _, fun n _ hp => World.heap_setCells w b o vs n (fun e => hp (e ▸ hb))⟩
theorem Kept.mono {p q : Nat → Prop} {w w' : World} (h : Kept p w w') (hpq : ∀ b, b < w.heap.size → p b → q b) : Kept q w w' :=
  ⟨h.os, h.tape, h.output, h.size, fun b hb hq => h.block b hb (fun hp => hq (hpq b hb hp))⟩
theorem Kept.below {p : Nat → Prop} {B : Nat} {w w' : World} (h : Kept p w w') (hB : B ≤ w.heap.size) (hp : ∀ b, b < B → ¬ p b) : Below B w w' :=
  ⟨h.os, h.tape, h.output, h.size, fun b hb => h.block b (Nat.lt_of_lt_of_le hb hB) (hp b hb)⟩
theorem Kept.of_below {p : Nat → Prop} {w w' : World} (h : Below w.heap.size w w') : Kept p w w' := ⟨h.os, h.tape, h.output, h.size, fun b hb _ => h.block b hb⟩

/-- three spans as six words -/
structure C3 where
  a : Nat
  b : Nat
  c : Nat
  d : Nat
  e : Nat
  f : Nat
structure C3.ok (s : C3) : Prop where
  a : s.a < 18446744073709551616
  b : s.b < 18446744073709551616
  c : s.c < 18446744073709551616
  d : s.d < 18446744073709551616
  e : s.e < 18446744073709551616
  f : s.f < 18446744073709551616
/-- a pixel -/
structure Px where
  s : C3
  n : Int
  d : Int
def Px.cells (p : Px) : List Value := [.float .f64 p.s.a, .float .f64 p.s.b, .float .f64 p.s.c, .float .f64 p.s.d, .float .f64 p.s.e, .float .f64 p.s.f, .int .i64 p.n, .int .i64 p.d]
def Px.v (p : Px) : Value := .agg #[.float .f64 p.s.a, .float .f64 p.s.b, .float .f64 p.s.c, .float .f64 p.s.d, .float .f64 p.s.e, .float .f64 p.s.f, .int .i64 p.n, .int .i64 p.d]
def pz : Px := ⟨⟨0, 0, 0, 0, 0, 0⟩, 0, 0⟩
theorem Px.len (p : Px) : p.cells.length = 8 := rfl

/-- n pixels lie in block b -/
structure PixAt (w : World) (b n : Nat) (px : Nat → Px) : Prop where
  lt : b < w.heap.size
  range : ∀ i, i < n → w.rangeAt b (i * 8) (px i).cells
  there : w.there b 0 (n * 8)
theorem PixAt.of_block {w w' : World} {b n : Nat} {px : Nat → Px} (h : PixAt w b n px) (hb : w'.heap[b]? = w.heap[b]?) : PixAt w' b n px := by
  refine ⟨?_, fun i hi j v hv => ?_, fun j hj => ?_⟩
  · have := h.lt
    by_cases hlt : b < w'.heap.size
    · exact hlt
    · rw [Array.getElem?_eq_none (by omega), Array.getElem?_eq_getElem this] at hb; cases hb
  · rw [cell_block hb]; exact h.range i hi j v hv
  · rw [cell_block hb, froz_block hb]; exact h.there j hj
theorem PixAt.kept {p : Nat → Prop} {w w' : World} {b n : Nat} {px : Nat → Px} (h : PixAt w b n px) (hk : Kept p w w') (hb : ¬ p b) : PixAt w' b n px := h.of_block (hk.block b h.lt hb)
theorem PixAt.over {w : World} {b n : Nat} {px : Nat → Px} (h : PixAt w b n px) (X : Ext) : PixAt (w.over X) b n px := h.of_block (World.over_block w X b h.lt)
def upd (px : Nat → Px) (k : Nat) (p : Px) : Nat → Px := fun i => if i = k then p else px i
theorem PixAt.there1 {w : World} {b n : Nat} {px : Nat → Px} (h : PixAt w b n px) {k : Nat} (hk : k < n) : w.there b (k * 8) 8 := fun j hj => by
  have := h.there (k * 8 + j) (by omega)
  rwa [Nat.zero_add] at this
theorem PixAt.set {w : World} {b n : Nat} {px : Nat → Px} (h : PixAt w b n px) {k : Nat} (hk : k < n) (p : Px) : PixAt (w.setCells b (k * 8) p.cells) b n (upd px k p) := by
  refine ⟨by rw [World.size_setCells]; exact h.lt, fun i hi => ?_, World.there_setCells h.there _ _ _⟩
  unfold upd
  by_cases e : i = k
  · subst e
    rw [if_pos rfl]
    exact World.rangeAt_setCells_same _ _ _ _ (by rw [Px.len]; exact h.there1 hk)
  · rw [if_neg e]
    exact World.rangeAt_setCells_apart (h.range i hi) _ _ _ (Or.inr (by rw [Px.len, Px.len]; omega))
theorem PixAt.cells8 {w : World} {b n : Nat} {px : Nat → Px} (h : PixAt w b n px) {k : Nat} (hk : k < n) :
    w.cell? ⟨b, k * 8, none⟩ = some (.float .f64 (px k).s.a) ∧ w.cell? ⟨b, k * 8 + 1, none⟩ = some (.float .f64 (px k).s.b) ∧ w.cell? ⟨b, k * 8 + 2, none⟩ = some (.float .f64 (px k).s.c) ∧
    w.cell? ⟨b, k * 8 + 3, none⟩ = some (.float .f64 (px k).s.d) ∧ w.cell? ⟨b, k * 8 + 4, none⟩ = some (.float .f64 (px k).s.e) ∧ w.cell? ⟨b, k * 8 + 5, none⟩ = some (.float .f64 (px k).s.f) ∧
    w.cell? ⟨b, k * 8 + 6, none⟩ = some (.int .i64 (px k).n) ∧ w.cell? ⟨b, k * 8 + 7, none⟩ = some (.int .i64 (px k).d) :=
  have r := h.range k hk
  ⟨r 0 _ rfl, r 1 _ rfl, r 2 _ rfl, r 3 _ rfl, r 4 _ rfl, r 5 _ rfl, r 6 _ rfl, r 7 _ rfl⟩
theorem PixAt.congr {w : World} {b n : Nat} {px qx : Nat → Px} (h : PixAt w b n px) (e : ∀ i, i < n → px i = qx i) : PixAt w b n qx := ⟨h.lt, fun i hi => e i hi ▸ h.range i hi, h.there⟩
/-- pixels just made: n times eight zero cells -/
theorem PixAt.made {w : World} {n : Nat} {cs : Array Value} {T : TypeId} (hs : cs.size = n * 8) (hz : ∀ i, i < n → ∀ j v, pz.cells[j]? = some v → cs[i * 8 + j]? = some v) : PixAt (w.alloc (.cells cs T)) w.heap.size n (fun _ => pz) := by
  have hb : (w.alloc (.cells cs T)).heap[w.heap.size]? = some (.cells cs T (0, 0)) := heap_alloc_last w _
  refine ⟨by show w.heap.size < (w.heap.push _).size; rw [Array.size_push]; omega, fun i hi j v hv => ?_, fun j hj => ?_⟩
  · rw [cell_of_row _ _ _ _ _ _ hb]; exact hz i hi j v hv
  · rw [cell_of_row _ _ _ _ _ _ hb]
    refine ⟨by rw [Array.getElem?_eq_getElem (by omega)]; rfl, ?_⟩
    unfold World.frozen?
    simp only [hb]
    simp

/-- an image in memory: its head in block ib, its pixels in block pb -/
structure ImgAt (w : World) (ib pb W H : Nat) (px : Nat → Px) : Prop where
  lt : ib < w.heap.size
  c0 : w.cell? ⟨ib, 0, none⟩ = some (.int .i64 W)
  c1 : w.cell? ⟨ib, 1, none⟩ = some (.int .i64 H)
  c2 : w.cell? ⟨ib, 2, none⟩ = some (.slice (some ⟨pb, 0, none⟩) (W * H) (W * H))
  ne : pb ≠ ib
  w1 : 1 ≤ W
  w2 : W ≤ 1024
  h1 : 1 ≤ H
  h2 : H ≤ 1024
  pix : PixAt w pb (W * H) px
theorem ImgAt.kept {p : Nat → Prop} {w w' : World} {ib pb W H : Nat} {px : Nat → Px} (h : ImgAt w ib pb W H px) (hk : Kept p w w') (hi : ¬ p ib) (hp : ¬ p pb) : ImgAt w' ib pb W H px := by
  have e := hk.block ib h.lt hi
  exact ⟨Nat.lt_of_lt_of_le h.lt hk.size, by rw [cell_block e]; exact h.c0, by rw [cell_block e]; exact h.c1, by rw [cell_block e]; exact h.c2, h.ne, h.w1, h.w2, h.h1, h.h2, h.pix.kept hk hp⟩
theorem ImgAt.over {w : World} {ib pb W H : Nat} {px : Nat → Px} (h : ImgAt w ib pb W H px) (X : Ext) : ImgAt (w.over X) ib pb W H px := h.kept (Kept.over (fun _ => False) w X) id id
theorem Kept.alloc (p : Nat → Prop) (w : World) (o : Obj) : Kept p w (w.alloc o) := ⟨rfl, rfl, rfl, by show w.heap.size ≤ (w.heap.push o).size; rw [Array.size_push]; omega, fun b hb _ => by
  show (w.heap.push o)[b]? = w.heap[b]?
  rw [Array.getElem?_push, if_neg (by omega)]⟩
theorem Kept.drew (p : Nat → Prop) (w : World) : Kept p w w.drew := ⟨rfl, rfl, rfl, Nat.le_refl _, fun _ _ _ => rfl⟩
theorem Kept.drewN (p : Nat → Prop) (w : World) (n : Nat) : Kept p w (w.drewN n) := ⟨rfl, rfl, rfl, Nat.le_refl _, fun _ _ _ => rfl⟩
theorem Kept.setCell {p : Nat → Prop} (w : World) {b : Nat} (hb : p b) (o : Nat) (v : Value) : Kept p w (w.setCell ⟨b, o, none⟩ v) := Kept.setCells w hb o [v]
theorem ImgAt.alloc {w : World} {ib pb W H : Nat} {px : Nat → Px} (h : ImgAt w ib pb W H px) (o : Obj) : ImgAt (w.alloc o) ib pb W H px := h.kept (Kept.alloc (fun _ => False) w o) id id
theorem ImgAt.drew {w : World} {ib pb W H : Nat} {px : Nat → Px} (h : ImgAt w ib pb W H px) : ImgAt w.drew ib pb W H px := h.kept (Kept.drew (fun _ => False) w) id id
theorem ImgAt.drewN {w : World} {ib pb W H : Nat} {px : Nat → Px} (h : ImgAt w ib pb W H px) (n : Nat) : ImgAt (w.drewN n) ib pb W H px := h.kept (Kept.drewN (fun _ => False) w n) id id
theorem ImgAt.setCell {w : World} {ib pb W H : Nat} {px : Nat → Px} (h : ImgAt w ib pb W H px) {b : Nat} (hi : ib ≠ b) (hp : pb ≠ b) (o : Nat) (v : Value) : ImgAt (w.setCell ⟨b, o, none⟩ v) ib pb W H px := h.kept (Kept.setCell (p := fun n => n = b) w rfl o v) hi hp
theorem ImgAt.set {w : World} {ib pb W H : Nat} {px : Nat → Px} (h : ImgAt w ib pb W H px) {k : Nat} (hk : k < W * H) (p : Px) : ImgAt (w.setCells pb (k * 8) p.cells) ib pb W H (upd px k p) := by
  have e := World.heap_setCells w pb (k * 8) p.cells ib (fun e => h.ne e.symm)
  exact ⟨by rw [World.size_setCells]; exact h.lt, by rw [cell_block e]; exact h.c0, by rw [cell_block e]; exact h.c1, by rw [cell_block e]; exact h.c2, h.ne, h.w1, h.w2, h.h1, h.h2, h.pix.set hk p⟩
/-- a film in memory -/
structure FilmAt (w : World) (fb ib pb W H : Nat) (px : Nat → Px) : Prop where
  lt : fb < w.heap.size
  c : w.cell? ⟨fb, 0, none⟩ = some (.pointer (some ⟨ib, 0, none⟩))
  ne : pb ≠ fb
  img : ImgAt w ib pb W H px
theorem FilmAt.kept {p : Nat → Prop} {w w' : World} {fb ib pb W H : Nat} {px : Nat → Px} (h : FilmAt w fb ib pb W H px) (hk : Kept p w w') (hf : ¬ p fb) (hi : ¬ p ib) (hp : ¬ p pb) : FilmAt w' fb ib pb W H px :=
  ⟨Nat.lt_of_lt_of_le h.lt hk.size, by rw [cell_block (hk.block fb h.lt hf)]; exact h.c, h.ne, h.img.kept hk hi hp⟩
theorem FilmAt.over {w : World} {fb ib pb W H : Nat} {px : Nat → Px} (h : FilmAt w fb ib pb W H px) (X : Ext) : FilmAt (w.over X) fb ib pb W H px := h.kept (Kept.over (fun _ => False) w X) id id id
theorem FilmAt.set {w : World} {fb ib pb W H : Nat} {px : Nat → Px} (h : FilmAt w fb ib pb W H px) {k : Nat} (hk : k < W * H) (p : Px) : FilmAt (w.setCells pb (k * 8) p.cells) fb ib pb W H (upd px k p) :=
  ⟨by rw [World.size_setCells]; exact h.lt, by rw [cell_block (World.heap_setCells w pb (k * 8) p.cells fb (fun e => h.ne e.symm))]; exact h.c, h.ne, h.img.set hk p⟩
theorem FilmAt.alloc {w : World} {fb ib pb W H : Nat} {px : Nat → Px} (h : FilmAt w fb ib pb W H px) (o : Obj) : FilmAt (w.alloc o) fb ib pb W H px := h.kept (Kept.alloc (fun _ => False) w o) id id id
theorem FilmAt.drew {w : World} {fb ib pb W H : Nat} {px : Nat → Px} (h : FilmAt w fb ib pb W H px) : FilmAt w.drew fb ib pb W H px := h.kept (Kept.drew (fun _ => False) w) id id id
theorem FilmAt.drewN {w : World} {fb ib pb W H : Nat} {px : Nat → Px} (h : FilmAt w fb ib pb W H px) (n : Nat) : FilmAt (w.drewN n) fb ib pb W H px := h.kept (Kept.drewN (fun _ => False) w n) id id id
theorem FilmAt.setCell {w : World} {fb ib pb W H : Nat} {px : Nat → Px} (h : FilmAt w fb ib pb W H px) {b : Nat} (hf : fb ≠ b) (hi : ib ≠ b) (hp : pb ≠ b) (o : Nat) (v : Value) : FilmAt (w.setCell ⟨b, o, none⟩ v) fb ib pb W H px := h.kept (Kept.setCell (p := fun n => n = b) w rfl o v) hf hi hp
theorem set8_over {w W' : World} {b o : Nat} {v0 v1 v2 v3 v4 v5 v6 v7 : Value} (h : ∃ X, W' = w.over X) (hb : b < w.heap.size) :
    ∃ X, (((((((W'.setCell ⟨b, o, none⟩ v0).setCell ⟨b, o + 1, none⟩ v1).setCell ⟨b, o + 2, none⟩ v2).setCell ⟨b, o + 3, none⟩ v3).setCell ⟨b, o + 4, none⟩ v4).setCell ⟨b, o + 5, none⟩ v5).setCell ⟨b, o + 6, none⟩ v6).setCell ⟨b, o + 7, none⟩ v7 = (w.setCells b o [v0, v1, v2, v3, v4, v5, v6, v7]).over X := by
  obtain ⟨X, rfl⟩ := h
  exact ⟨X, World.setCells_over w X b o [v0, v1, v2, v3, v4, v5, v6, v7] hb⟩
theorem PixAt.froz8 {w : World} {b n : Nat} {px : Nat → Px} (h : PixAt w b n px) {k : Nat} (hk : k < n) :
    w.frozen? ⟨b, k * 8, none⟩ = false ∧ w.frozen? ⟨b, k * 8 + 1, none⟩ = false ∧ w.frozen? ⟨b, k * 8 + 2, none⟩ = false ∧ w.frozen? ⟨b, k * 8 + 3, none⟩ = false ∧
    w.frozen? ⟨b, k * 8 + 4, none⟩ = false ∧ w.frozen? ⟨b, k * 8 + 5, none⟩ = false ∧ w.frozen? ⟨b, k * 8 + 6, none⟩ = false ∧ w.frozen? ⟨b, k * 8 + 7, none⟩ = false :=
  have r := fun j hj => (h.there1 hk j hj).2
  ⟨r 0 (by omega), r 1 (by omega), r 2 (by omega), r 3 (by omega), r 4 (by omega), r 5 (by omega), r 6 (by omega), r 7 (by omega)⟩
/-- a block whose cells are these, and may be written -/
def Blk (w : World) (b : Nat) (cs : List Value) : Prop := w.rangeAt b 0 cs ∧ w.there b 0 cs.length
theorem Blk.new (w : World) (cs : Array Value) (T : TypeId) : Blk (w.alloc (.cells cs T)) w.heap.size cs.toList := by
  have hb : (w.alloc (.cells cs T)).heap[w.heap.size]? = some (.cells cs T (0, 0)) := heap_alloc_last w _
  refine ⟨fun j v hv => ?_, fun j hj => ?_⟩
  · rw [cell_of_row _ _ _ _ _ _ hb, Nat.zero_add]; simpa using hv
  · rw [cell_of_row _ _ _ _ _ _ hb, Nat.zero_add]
    refine ⟨by rw [Array.getElem?_eq_getElem (by simpa using hj)]; rfl, ?_⟩
    unfold World.frozen?
    simp only [hb]
    simp
theorem Blk.lt {w : World} {b : Nat} {cs : List Value} (h : Blk w b cs) (hc : cs ≠ []) : b < w.heap.size := by
  cases cs with
  | nil => exact absurd rfl hc
  | cons v r => exact World.block_lt_of_cell? w _ (h.1 0 v rfl)
theorem Blk.kept {p : Nat → Prop} {w w' : World} {b : Nat} {cs : List Value} (h : Blk w b cs) (hk : Kept p w w') (hb : ¬ p b) (hc : cs ≠ []) : Blk w' b cs := by
  have e := hk.block b (h.lt hc) hb
  exact ⟨fun j v hv => by rw [cell_block e]; exact h.1 j v hv, fun j hj => by rw [cell_block e, froz_block e]; exact h.2 j hj⟩
theorem Blk.over {w : World} {b : Nat} {cs : List Value} (h : Blk w b cs) (hc : cs ≠ []) (X : Ext) : Blk (w.over X) b cs := h.kept (Kept.over (fun _ => False) w X) id hc
theorem Blk.alloc {w : World} {b : Nat} {cs : List Value} (h : Blk w b cs) (hc : cs ≠ []) (o : Obj) : Blk (w.alloc o) b cs := h.kept (Kept.alloc (fun _ => False) w o) id hc
theorem Blk.drew {w : World} {b : Nat} {cs : List Value} (h : Blk w b cs) : Blk (w.drew) b cs := h
theorem Blk.set1 {w : World} {b : Nat} {cs : List Value} (h : Blk w b cs) (j : Nat) (v : Value) (hj : j < cs.length) : Blk (w.setCell ⟨b, j, none⟩ v) b (cs.set j v) := by
  refine ⟨fun i u hu => ?_, fun i hi => ?_⟩
  · rw [Nat.zero_add]
    by_cases e : j = i
    · subst e
      obtain ⟨o, ho⟩ := Option.isSome_iff_exists.1 (h.2 j hj).1
      rw [Nat.zero_add] at ho
      rw [World.cell?_setCell_same _ _ _ ho, ← hu, List.getElem?_set_self hj]
    · rw [List.getElem?_set_ne e] at hu
      rw [World.cell?_setCell_other _ _ _ _ (by simp)]
      have := h.1 i u hu
      rwa [Nat.zero_add] at this
  · have hi' : i < cs.length := by simpa using hi
    obtain ⟨h1, h2⟩ := h.2 i hi'
    rw [World.frozen?_setCell]
    refine ⟨?_, h2⟩
    obtain ⟨o, ho⟩ := Option.isSome_iff_exists.1 h1
    by_cases e : j = i
    · subst e
      rw [Nat.zero_add] at ho ⊢
      rw [World.cell?_setCell_same _ _ _ ho]; rfl
    · rw [World.cell?_setCell_other _ _ _ _ (by simp)]; exact h1
theorem Blk.set1_other {w : World} {b b' : Nat} {cs : List Value} (h : Blk w b cs) (hb : b ≠ b') (hc : cs ≠ []) (j : Nat) (v : Value) : Blk (w.setCell ⟨b', j, none⟩ v) b cs := h.kept (Kept.setCell (p := fun n => n = b') w rfl j v) hb hc
theorem over_set7 {w W : World} {b : Nat} {v0 v1 v2 v3 v4 v5 v6 : Value} (h : ∃ X, W = w.over X) (hb : w.heap.size ≤ b) (Y : Ext) : ∃ X, (((((((W.setCell ⟨b, 0, none⟩ v0).setCell ⟨b, 1, none⟩ v1).setCell ⟨b, 2, none⟩ v2).setCell ⟨b, 3, none⟩ v3).setCell ⟨b, 4, none⟩ v4).setCell ⟨b, 5, none⟩ v5).setCell ⟨b, 6, none⟩ v6).over Y = w.over X := by
  obtain ⟨X, rfl⟩ := h
  have key : ∀ (a : World), (∃ X, a = w.over X) → ∀ o v, ∃ X, a.setCell ⟨b, o, none⟩ v = w.over X := by
    rintro a ⟨X, rfl⟩ o v
    exact Below.is_over (((Below.refl _ _).over (Nat.le_refl _) X).setCell hb _)
  have fin : ∀ (a : World), (∃ X, a = w.over X) → ∃ X, a.over Y = w.over X := by
    rintro a ⟨X, rfl⟩
    exact ⟨_, World.over_over _ _ _⟩
  exact fin _ (key _ (key _ (key _ (key _ (key _ (key _ (key _ ⟨X, rfl⟩ _ _) _ _) _ _) _ _) _ _) _ _) _ _)
theorem Blk.set7 {W : World} {b : Nat} {v0 v1 v2 v3 v4 v5 v6 : Value} {o0 o1 o2 o3 o4 o5 o6 o7 : Value} (h : Blk W b [o0, o1, o2, o3, o4, o5, o6, o7]) (Y : Ext) : Blk ((((((((W.setCell ⟨b, 0, none⟩ v0).setCell ⟨b, 1, none⟩ v1).setCell ⟨b, 2, none⟩ v2).setCell ⟨b, 3, none⟩ v3).setCell ⟨b, 4, none⟩ v4).setCell ⟨b, 5, none⟩ v5).setCell ⟨b, 6, none⟩ v6).over Y) b [v0, v1, v2, v3, v4, v5, v6, o7] :=
  (((((((h.set1 0 v0 (by simp)).set1 1 v1 (by simp)).set1 2 v2 (by simp)).set1 3 v3 (by simp)).set1 4 v4 (by simp)).set1 5 v5 (by simp)).set1 6 v6 (by simp)).over (by simp) Y
theorem Blk.set7_other {W : World} {b b' : Nat} {v0 v1 v2 v3 v4 v5 v6 : Value} {cs : List Value} (h : Blk W b' cs) (hb : b' ≠ b) (hc : cs ≠ []) (Y : Ext) : Blk ((((((((W.setCell ⟨b, 0, none⟩ v0).setCell ⟨b, 1, none⟩ v1).setCell ⟨b, 2, none⟩ v2).setCell ⟨b, 3, none⟩ v3).setCell ⟨b, 4, none⟩ v4).setCell ⟨b, 5, none⟩ v5).setCell ⟨b, 6, none⟩ v6).over Y) b' cs :=
  (((((((h.set1_other hb hc 0 v0).set1_other hb hc 1 v1).set1_other hb hc 2 v2).set1_other hb hc 3 v3).set1_other hb hc 4 v4).set1_other hb hc 5 v5).set1_other hb hc 6 v6).over hc Y
theorem sets_over {w W' : World} {b o : Nat} {vs : List Value} (h : ∃ X, W' = w.over X) (hb : b < w.heap.size) (Y : Ext) : ∃ X, (W'.setCells b o vs).over Y = (w.setCells b o vs).over X := by
  obtain ⟨X, rfl⟩ := h
  rw [World.setCells_over _ _ _ _ _ hb]
  exact ⟨_, World.over_over _ _ _⟩
/-- go on in any world of which this holds -/
theorem wp_any_world {P : Program} {c : Code} {Q : Exit → Act → World → Prop} {a : Act} {w0 : World} (F : World → Prop) (h0 : F w0) (h : ∀ w, F w → c.wp P Q a w) : c.wp P Q a w0 := h w0 h0
theorem cell_over {w : World} {b i : Nat} {v : Value} (h : w.cell? ⟨b, i, none⟩ = some v) (X : Ext) : (w.over X).cell? ⟨b, i, none⟩ = some v := by
  rw [World.cell?_over _ _ _ _ (World.block_lt_of_cell? w _ h)]; exact h
/-- the place of a pixel -/
theorem place_lt {W H : Nat} {x y : Int} (hx0 : 0 ≤ x) (hx : x < W) (hy0 : 0 ≤ y) (hy : y < H) : (y * W + x).toNat < W * H ∧ 0 ≤ y * W + x ∧ y * W + x < W * H ∧ 0 ≤ y * W ∧ y * W < W * H := by
  obtain ⟨m, rfl⟩ := Int.eq_ofNat_of_zero_le hx0
  obtain ⟨n, rfl⟩ := Int.eq_ofNat_of_zero_le hy0
  have h1 : m < W := by omega
  have h2 : n + 1 ≤ H := by omega
  have h3 := Nat.mul_le_mul_right W h2
  have e : (n : Int) * W + m = ((n * W + m : Nat) : Int) := by simp
  have e2 : (n : Int) * W = ((n * W : Nat) : Int) := by simp
  have e3 : (W : Int) * H = ((W * H : Nat) : Int) := by simp
  rw [e, e2, e3, Int.toNat_natCast]
  rw [Nat.add_mul, Nat.one_mul, Nat.mul_comm H W] at h3
  omega
end Go.Proofs.Ytknijppdnfcknaa
