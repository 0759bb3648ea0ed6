/- A region that draws its order, whose first operations read or call what makes memory alone, and whose others each wait for all ahead of them: one walk in the order of the text. -/
import Derived.Test.YtknijppdnfcknaaWy
import Derived.Deep.Draws
namespace Go

section
variable {P : Program} {ops : Array Oper} {md : Region.Mode} {C : World → Prop}

theorem wpAny_forced {Q : Exit → Act → World → Prop} : ∀ (t : List Oper) (k : Nat) (listed : Array Bool) (a : Act) (w : World), (∀ j, j < t.length → t[j]? = ops[k + j]?) → k + t.length = ops.size →
    (listed.size = ops.size ∧ (∀ j, j < k → listed.getD j true = true) ∧ ∀ j, k ≤ j → j < ops.size → listed.getD j true = false) →
    (∀ i oi, k ≤ i → ops[i]? = some oi → ∀ j, j < i → ∃ e ∈ oi.after, Region.binds md e = true ∧ e.on = j) →
    Region.lexFrom md ops t.length k listed = true → wpList P ops Q t a w → wpAny P md ops Q t.length listed a w
  | [], k, listed, a, w, _, _, _, _, hB, h => ⟨by simpa [Region.lexFrom] using hB, h⟩
  | o :: t, k, listed, a, w, hl, hk, hinv, hwait, hB, h => by
    have h0 : ops[k]? = some o := by simpa using (hl 0 (by simp)).symm
    simp only [List.length_cons, Region.lexFrom, Bool.and_eq_true] at hB
    obtain ⟨⟨hr, _⟩, hB'⟩ := hB
    have hr' : k ∈ Region.ready md ops listed := by simpa using hr
    have hklt : k < ops.size := (Array.getElem?_eq_some_iff.1 h0).1
    refine ⟨fun h0 => (by rw [h0] at hr'; cases hr'), fun i hi => ?_⟩
    obtain ⟨hun, oi, hoi, hall⟩ := mem_ready.1 hi
    have hil : i < ops.size := (Array.getElem?_eq_some_iff.1 hoi).1
    have hik : i = k := by
      rcases Nat.lt_trichotomy i k with h' | h' | h'
      · have := hinv.2.1 i h'
        rw [hun] at this; cases this
      · exact h'
      · obtain ⟨e, he, hb, ho⟩ := hwait i oi (by omega) hoi k h'
        have h2 := hall e he hb
        rw [ho] at h2
        have h3 := hinv.2.2 k (Nat.le_refl _) hklt
        have hks : k < listed.size := by rw [hinv.1]; omega
        simp [hks] at h2 h3
        rw [h3] at h2; cases h2
    subst hik
    have ih : ∀ a w, wpList P ops Q t a w → wpAny P md ops Q t.length (listed.setIfInBounds i true) a w := fun a w hh =>
      wpAny_forced t (i + 1) _ a w (fun j hj => by have := hl (j + 1) (by simp; omega); simpa [Nat.add_assoc, Nat.add_comm 1 j] using this) (by simp at hk; omega)
        ⟨by simp [hinv.1], fun j hj => by
          by_cases hjk : i = j
          · subst hjk
            have hlt : i < listed.size := by rw [hinv.1]; omega
            simp [hlt]
          · rw [getD_set_ne true hjk]; exact hinv.2.1 j (by omega), fun j hj hj' => by
          rw [getD_set_ne true (by omega)]; exact hinv.2.2 j (by omega) hj'⟩ (fun i' oi' hi' => hwait i' oi' (by omega)) hB' hh
    unfold wpOp
    simp only [h0]
    unfold wpList at h
    split
    · rename_i hwn
      rw [if_pos hwn] at h
      rcases h with h1 | h1
      · exact .inl (Oper.wp_mono (fun a w hh => ih a w hh) h1)
      · exact .inr h1
    · rename_i hwn
      rw [if_neg hwn] at h
      exact ih _ _ h

/-- each of the last operations waits for all ahead of it -/
def tailWaits (md : Region.Mode) : Nat → List Oper → Bool
  | _, [] => true
  | n, o :: t => ((List.range n).all fun j => o.after.any fun e => Region.binds md e && e.on == j) && tailWaits md (n + 1) t
theorem tailWaits_spec : ∀ (t : List Oper) (n : Nat), tailWaits md n t = true → ∀ i oi, t[i]? = some oi → ∀ j, j < n + i → ∃ e ∈ oi.after, Region.binds md e = true ∧ e.on = j
  | [], _, _, i, oi, h, _, _ => by simp at h
  | o :: t, n, hw, 0, oi, h, j, hj => by
    simp only [tailWaits, Bool.and_eq_true] at hw
    have : o = oi := by simpa using h
    subst this
    obtain ⟨e, he, hb⟩ := Array.any_eq_true'.1 (List.all_eq_true.1 hw.1 j (List.mem_range.2 (by omega)))
    simp only [Bool.and_eq_true, beq_iff_eq] at hb
    exact ⟨e, he, hb.1, hb.2⟩
  | o :: t, n, hw, i + 1, oi, h, j, hj => by
    simp only [tailWaits, Bool.and_eq_true] at hw
    exact tailWaits_spec t (n + 1) hw.2 i oi (by simpa using h) j (by omega)

theorem wp_region_tail {id : Nat} {Q : Exit → Act → World → Prop} {a : Act} {w : World} {l t : List Oper} (hm : P.follows .mixedOrders = true) (hB : Region.lexB .any (l ++ t).toArray = true) (hw : tailWaits .any l.length t = true)
    (hC : C { w with drawn := w.drawn + 1 })
    (h : wpQuiet P (l ++ t).toArray C (fun a' => ∀ w', C w' → wpList P (l ++ t).toArray Q t a' w') l a) : (Code.region id (l ++ t).toArray true).wp P Q a w := by
  refine wp_region_any hm ?_
  generalize hops : (l ++ t).toArray = ops at *
  have hsz : ops.size = l.length + t.length := by rw [← hops]; simp
  have hat : ∀ j, j < l.length → l[j]? = ops[j]? := by
    intro j hj; rw [← hops]; simp [List.getElem?_append_left hj]
  have hat2 : ∀ j, t[j]? = ops[l.length + j]? := by
    intro j; rw [← hops]; simp [List.getElem?_append_right]
  simp only [Region.lexB, Bool.and_eq_true] at hB
  have hwaits : ∀ i oi, l.length ≤ i → ops[i]? = some oi → ∀ j, j < i → ∃ e ∈ oi.after, Region.binds .any e = true ∧ e.on = j := by
    intro i oi hi hoi j hj
    refine tailWaits_spec t l.length hw (i - l.length) oi ?_ j (by omega)
    rw [hat2, show l.length + (i - l.length) = i by omega]; exact hoi
  have hwait : ∀ i oi, l.length ≤ i → ops[i]? = some oi → ∀ j, j < l.length → ∃ e ∈ oi.after, Region.binds .any e = true ∧ e.on = j := fun i oi hi hoi j hj => hwaits i oi hi hoi j (by omega)
  obtain ⟨L, hLdef⟩ : ∃ L : Array Bool, L = Array.replicate l.length true ++ Array.replicate t.length false := ⟨_, rfl⟩
  have hL : ∀ listed : Array Bool, (listed.size = ops.size ∧ (∀ j, j < l.length → listed.getD j true = true) ∧ ∀ j, l.length ≤ j → j < ops.size → listed.getD j true = false) → listed = L := by
    rintro listed ⟨h1, h2, h3⟩
    apply Array.ext
    · rw [hLdef]; simp; omega
    · intro j hj hj'
      by_cases hjl : j < l.length
      · have := h2 j hjl
        simp [hj] at this
        rw [this]; simp [hLdef, hjl]
      · have := h3 j (by omega) (by omega)
        simp [hj] at this
        rw [this]; simp [hLdef, Array.getElem_append, hjl]
  have hinvL : L.size = ops.size ∧ (∀ j, j < l.length → L.getD j true = true) ∧ ∀ j, l.length ≤ j → j < ops.size → L.getD j true = false := by
    refine ⟨by rw [hLdef]; simp; omega, fun j hj => ?_, fun j hj hj' => ?_⟩
    · rw [hLdef]; simp [hj, Array.getElem?_append]
    · rw [hLdef]; simp [Array.getElem?_append, show ¬ j < l.length by omega, show j - l.length < t.length by omega]
  have hlex : ∀ (m k : Nat) (listed : Array Bool), k + m = l.length → (listed.size = ops.size ∧ (∀ j, j < k → listed.getD j true = true) ∧ ∀ j, k ≤ j → j < ops.size → listed.getD j true = false) →
      Region.lexFrom .any ops (m + t.length) k listed = true → Region.lexFrom .any ops t.length l.length L = true := by
    intro m
    induction m with
    | zero =>
      intro k listed hk hinv hB
      rw [Nat.add_zero] at hk; subst hk
      rw [Nat.zero_add] at hB
      rw [← hL listed hinv]; exact hB
    | succ m ih =>
      intro k listed hk hinv hB
      rw [show m + 1 + t.length = (m + t.length) + 1 by omega, Region.lexFrom] at hB
      simp only [Bool.and_eq_true] at hB
      refine ih (k + 1) _ (by omega) ⟨by simp [hinv.1], fun j hj => ?_, fun j hj hj' => ?_⟩ hB.2
      · by_cases hjk : k = j
        · subst hjk
          have hlt : k < listed.size := by rw [hinv.1]; omega
          simp [hlt]
        · rw [getD_set_ne true hjk]; exact hinv.2.1 j (by omega)
      · rw [getD_set_ne true (by omega)]; exact hinv.2.2 j (by omega) hj'
  have hinv0 : (Array.replicate ops.size false).size = ops.size ∧ (∀ j, j < 0 → (Array.replicate ops.size false).getD j true = true) ∧ ∀ j, 0 ≤ j → j < ops.size → (Array.replicate ops.size false).getD j true = false :=
    ⟨by simp, fun j hj => by omega, fun j _ hj => by simp [hj]⟩
  have hB2 : Region.lexFrom .any ops (l.length + t.length) 0 (Array.replicate ops.size false) = true := by
    have := hB.2; rw [hsz] at this; rw [hsz]; exact this
  have hfin := hlex l.length 0 _ (by omega) hinv0 hB2
  rw [show ops.size = l.length + t.length from hsz]
  refine wpAny_of_wpHead (n := l.length) hL (Q := fun a' => ∀ w', C w' → wpList P ops Q t a' w') (fun a' w' hw' hq => ?_) l.length _ a _ hC ?_
  · exact wpAny_forced t l.length L a' w' (fun j _ => hat2 j) (by omega) hinvL hwaits hfin (hq w' hw')
  · rw [← hsz]
    exact wpHead_lex (g := t.length) hB.1 (by omega) hwait l 0 _ a (fun j hj => by rw [Nat.zero_add]; exact hat j hj) (by omega) hinv0 hB2 h
end

theorem wp_region_tailN0 {P : Program} {id : Nat} {Q : Exit → Act → World → Prop} {a : Act} {w : World} {l : List Oper} (n : Nat) (hm : P.follows .mixedOrders = true) (hB : Region.lexB .any l.toArray = true) (hn : (l.take n).length = n) (hw : tailWaits .any n (l.drop n) = true)
    (h : wpQuiet P l.toArray (fun w' => ∃ X, w' = w.over X) (fun a' => ∀ w', (∃ X, w' = w.over X) → wpList P l.toArray Q (l.drop n) a' w') (l.take n) a) : (Code.region id l.toArray true).wp P Q a w := by
  have key : ∀ l' : List Oper, l' = l.take n ++ l.drop n → (Code.region id l'.toArray true).wp P Q a w := by
    rintro l' rfl
    refine wp_region_tail (C := fun w' => ∃ X, w' = w.over X) hm ?_ ?_ ⟨⟨#[], w.drawn + 1⟩, by simp [World.over]⟩ ?_
    · rw [List.take_append_drop]; exact hB
    · rw [hn]; exact hw
    · rw [List.take_append_drop]; exact h
  exact key l (List.take_append_drop n l).symm
theorem wp_region_tailN1 {P : Program} {id : Nat} {Q : Exit → Act → World → Prop} {a : Act} {w : World} {X0 : Ext} {l : List Oper} (n : Nat) (hm : P.follows .mixedOrders = true) (hB : Region.lexB .any l.toArray = true) (hn : (l.take n).length = n) (hw : tailWaits .any n (l.drop n) = true)
    (h : wpQuiet P l.toArray (fun w' => ∃ X, w' = w.over X) (fun a' => ∀ w', (∃ X, w' = w.over X) → wpList P l.toArray Q (l.drop n) a' w') (l.take n) a) : (Code.region id l.toArray true).wp P Q a (w.over X0) := by
  have key : ∀ l' : List Oper, l' = l.take n ++ l.drop n → (Code.region id l'.toArray true).wp P Q a (w.over X0) := by
    rintro l' rfl
    refine wp_region_tail (C := fun w' => ∃ X, w' = w.over X) hm ?_ ?_ ⟨⟨X0.blocks, X0.drawn + 1⟩, rfl⟩ ?_
    · rw [List.take_append_drop]; exact hB
    · rw [hn]; exact hw
    · rw [List.take_append_drop]; exact h
  exact key l (List.take_append_drop n l).symm
/-- .. whose first operations only read -/
theorem wp_region_tailQ {P : Program} {id : Nat} {Q : Exit → Act → World → Prop} {a : Act} {w : World} {l : List Oper} (n : Nat) (hm : P.follows .mixedOrders = true) (hB : Region.lexB .any l.toArray = true) (hn : (l.take n).length = n) (hw : tailWaits .any n (l.drop n) = true)
    (h : wpQuiet P l.toArray (fun w' => ∃ n, w' = w.drewN n) (fun a' => ∀ w', (∃ n, w' = w.drewN n) → wpList P l.toArray Q (l.drop n) a' w') (l.take n) a) : (Code.region id l.toArray true).wp P Q a w := by
  have key : ∀ l' : List Oper, l' = l.take n ++ l.drop n → (Code.region id l'.toArray true).wp P Q a w := by
    rintro l' rfl
    refine wp_region_tail (C := fun w' => ∃ n, w' = w.drewN n) hm ?_ ?_ ⟨1, rfl⟩ ?_
    · rw [List.take_append_drop]; exact hB
    · rw [hn]; exact hw
    · rw [List.take_append_drop]; exact h
  exact key l (List.take_append_drop n l).symm
end Go
