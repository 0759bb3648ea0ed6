/- A region that draws its order, whose operations read or call what makes memory alone, but for the last, which waits for all of them: one walk in the order of the text, and then the last. -/
import Derived.Test.YtknijppdnfcknaaWv
namespace Go

section
variable {P : Program} {ops : Array Oper} {md : Region.Mode} {C : World → Prop}

/-- whatever order is picked for the operations below n; behind them Q -/
def wpHead (P : Program) (md : Region.Mode) (ops : Array Oper) (C : World → Prop) (n : Nat) (Q : Act → Prop) : Nat → Array Bool → Act → Prop
  | 0, listed, a => (listed.size = ops.size ∧ (∀ j, j < n → listed.getD j true = true) ∧ ∀ j, n ≤ j → j < ops.size → listed.getD j true = false) ∧ Q a
  | f + 1, listed, a => Region.ready md ops listed ≠ [] ∧ ∀ i ∈ Region.ready md ops listed, i < n ∧ qOp P ops C i (wpHead P md ops C n Q f (listed.setIfInBounds i true)) a

theorem wpHead_first {n i : Nat} {oi : Oper} {v : Value} {Q : Act → Prop} (hi : ops[i]? = some oi) (hsel : ∀ (j : Nat) (o : Oper) cs b, ops[j]? = some o → o.op ≠ .select cs b) (hin : i < n)
    (hwait : ∀ t ot, n ≤ t → ops[t]? = some ot → ∀ j, j < n → ∃ e ∈ ot.after, Region.binds md e = true ∧ e.on = j) :
    ∀ (f : Nat) (listed : Array Bool) (a : Act),
      (∀ j oj, ops[j]? = some oj → j ≠ i → listed.getD j true = false → (∀ e ∈ oj.after, Region.binds md e = true → e.on ≠ i) → oi.apart ops oj = true) →
      i ∈ Region.ready md ops listed → YieldsIn P ops C oi v a →
      wpHead P md ops C n Q f (listed.setIfInBounds i true) (a.put oi.dst v) → wpHead P md ops C n Q (f + 1) listed a := by
  intro f
  induction f with
  | zero =>
    intro listed a _ hr hy H
    refine ⟨fun h => (by rw [h] at hr; cases hr), fun j hj => ?_⟩
    have hun := (mem_ready.1 hr).1
    obtain ⟨hjun, oj, hoj, hall⟩ := mem_ready.1 hj
    have hjn : j < n := by
      rcases Nat.lt_or_ge j n with h | h
      · exact h
      · obtain ⟨e, he, hb, ho⟩ := hwait j oj h hoj i hin
        have h2 := hall e he hb
        rw [ho] at h2
        rcases Nat.lt_or_ge i listed.size with h' | h'
        · simp [h'] at hun h2; rw [hun] at h2; cases h2
        · simp [Array.getElem?_eq_none h'] at h2
    refine ⟨hjn, ?_⟩
    by_cases hji : j = i
    · subst hji; exact hy.qOp hi H
    · have := H.1.2.1 j hjn
      rw [getD_set_ne true (Ne.symm hji), hjun] at this
      cases this
  | succ f ih =>
    intro listed a hfree hr hy H
    refine ⟨fun h => (by rw [h] at hr; cases hr), fun j hj => ?_⟩
    have hun := (mem_ready.1 hr).1
    obtain ⟨hjun, oj, hoj, hall⟩ := mem_ready.1 hj
    have hjn : j < n := by
      rcases Nat.lt_or_ge j n with h | h
      · exact h
      · obtain ⟨e, he, hb, ho⟩ := hwait j oj h hoj i hin
        have h2 := hall e he hb
        rw [ho] at h2
        rcases Nat.lt_or_ge i listed.size with h' | h'
        · simp [h'] at hun h2; rw [hun] at h2; cases h2
        · simp [Array.getElem?_eq_none h'] at h2
    refine ⟨hjn, ?_⟩
    by_cases hji : j = i
    · subst hji; exact hy.qOp hi H
    · have h1 := (H.2 j (ready_mono hj hji)).2
      have h2 := qOp_put hoj (hfree j oj hoj hji hjun fun e he hb heq => by
        have h3 := hall e he hb
        rw [heq] at h3
        rcases Nat.lt_or_ge i listed.size with h' | h'
        · simp [h'] at hun h3; rw [hun] at h3; cases h3
        · simp [Array.getElem?_eq_none h'] at h3) (fun cs b => hsel i oi cs b hi) (fun cs b => hsel j oj cs b hoj) hy h1
      refine qOp_mono (fun a' h3 => ih (listed.setIfInBounds j true) a' (fun k ok hk hki hkun hno => ?_) (ready_mono hr (Ne.symm hji)) h3.1 ?_) h2
      · refine hfree k ok hk hki ?_ hno
        by_cases hjk : j = k
        · subst hjk; exact hjun
        · rw [getD_set_ne true hjk] at hkun; exact hkun
      · rw [Array.setIfInBounds_comm _ _ hji]
        exact h3.2

theorem wpHead_lex {n g : Nat} {Q : Act → Prop} (hs : Region.noSelect ops = true) (hn : n ≤ ops.size)
    (hwait : ∀ t ot, n ≤ t → ops[t]? = some ot → ∀ j, j < n → ∃ e ∈ ot.after, Region.binds md e = true ∧ e.on = j) :
    ∀ (l : List Oper) (k : Nat) (listed : Array Bool) (a : Act), (∀ j, j < l.length → l[j]? = ops[k + j]?) → k + l.length = n →
    (listed.size = ops.size ∧ (∀ j, j < k → listed.getD j true = true) ∧ ∀ j, k ≤ j → j < ops.size → listed.getD j true = false) →
    Region.lexFrom md ops (l.length + g) k listed = true → wpQuiet P ops C Q l a → wpHead P md ops C n Q l.length listed a
  | [], k, listed, a, _, hk, hinv, _, h => by
    simp only [List.length_nil, Nat.add_zero] at hk
    subst hk
    exact ⟨hinv, h⟩
  | o :: l, k, listed, a, hl, hk, hinv, hB, h => by
    have hk' : k < n := by simp at hk; omega
    have h0 : ops[k]? = some o := by simpa using (hl 0 (by simp)).symm
    rw [show (o :: l).length + g = (l.length + g) + 1 by simp; omega] at hB
    simp only [Region.lexFrom, Bool.and_eq_true] at hB
    obtain ⟨⟨hr, hf⟩, hB'⟩ := hB
    have hst : qOp P ops C k (wpQuiet P ops C Q l) a := by unfold qOp; simp only [h0]; exact h
    obtain ⟨v, hy, hK⟩ := yieldsIn_of_qOp h0 hst
    refine wpHead_first h0 (Region.noSelect_spec hs) hk' hwait l.length listed a (Region.free_spec h0 hf) (by simpa using hr) hy ?_
    refine wpHead_lex hs hn hwait l (k + 1) _ _ (fun j hj => ?_) (by simp at hk; omega) ⟨by simp [hinv.1], fun j hj => ?_, fun j hj hj' => ?_⟩ hB' hK
    · have := hl (j + 1) (by simp; omega)
      simpa [Nat.add_assoc, Nat.add_comm 1 j] using this
    · by_cases hjk : k = j
      · subst hjk
        have hlt : k < listed.size := by rw [hinv.1]; omega
        simp [hlt]
      · rw [getD_set_ne true hjk]; exact hinv.2.1 j (by omega)
    · rw [getD_set_ne true (by omega)]; exact hinv.2.2 j (by omega) hj'

theorem wpAny_of_wpHead {n g : Nat} {Q : Act → Prop} {Q' : Exit → Act → World → Prop} {L : Array Bool}
    (hL : ∀ listed : Array Bool, (listed.size = ops.size ∧ (∀ j, j < n → listed.getD j true = true) ∧ ∀ j, n ≤ j → j < ops.size → listed.getD j true = false) → listed = L)
    (hQ : ∀ a w, C w → Q a → wpAny P md ops Q' g L a w) :
    ∀ (f : Nat) (listed : Array Bool) (a : Act) (w : World), C w → wpHead P md ops C n Q f listed a → wpAny P md ops Q' (f + g) listed a w
  | 0, listed, a, w, hw, h => by
    rw [Nat.zero_add, hL listed h.1]; exact hQ a w hw h.2
  | f + 1, listed, a, w, hw, h => by
    rw [show f + 1 + g = (f + g) + 1 by omega]
    exact ⟨fun h0 => absurd h0 h.1, fun i hi => wpOp_of_qOp hw (fun a' w' hw' h' => wpAny_of_wpHead hL hQ f _ a' w' hw' h') (h.2 i hi).2⟩

/-- the last operation waits for each of the others -/
def lastWaits (md : Region.Mode) (n : Nat) (o : Oper) : Bool := (List.range n).all fun j => o.after.any fun e => Region.binds md e && e.on == j

theorem wp_region_last {id : Nat} {Q : Exit → Act → World → Prop} {a : Act} {w : World} {l : List Oper} {o : Oper} (hm : P.follows .mixedOrders = true) (hB : Region.lexB .any (l ++ [o]).toArray = true) (hw : lastWaits .any l.length o = true)
    (hC : C { w with drawn := w.drawn + 1 })
    (h : wpQuiet P (l ++ [o]).toArray C (fun a' => ∀ w', C w' → wpList P (l ++ [o]).toArray Q [o] a' w') l a) : (Code.region id (l ++ [o]).toArray true).wp P Q a w := by
  refine wp_region_any hm ?_
  generalize hops : (l ++ [o]).toArray = ops at *
  have hsz : ops.size = l.length + 1 := by rw [← hops]; simp
  have hat : ∀ j, j < l.length → l[j]? = ops[j]? := by
    intro j hj; rw [← hops]; simp [List.getElem?_append_left hj]
  have hlast : ops[l.length]? = some o := by rw [← hops]; simp
  simp only [Region.lexB, Bool.and_eq_true] at hB
  have hwait : ∀ t ot, l.length ≤ t → ops[t]? = some ot → ∀ j, j < l.length → ∃ e ∈ ot.after, Region.binds .any e = true ∧ e.on = j := by
    intro t ot ht hot j hj
    have htl : t < ops.size := (Array.getElem?_eq_some_iff.1 hot).1
    have : t = l.length := by omega
    subst this
    have : ot = o := Option.some.inj (hot.symm.trans hlast)
    subst this
    have h1 := List.all_eq_true.1 hw j (List.mem_range.2 hj)
    obtain ⟨e, he, hb⟩ := Array.any_eq_true'.1 h1
    simp only [Bool.and_eq_true, beq_iff_eq] at hb
    exact ⟨e, he, hb.1, hb.2⟩
  -- the array behind the others
  obtain ⟨L, hLdef⟩ : ∃ L : Array Bool, L = (Array.replicate l.length true).push false := ⟨_, rfl⟩
  have hL : ∀ listed : Array Bool, (listed.size = ops.size ∧ (∀ j, j < l.length → listed.getD j true = true) ∧ ∀ j, l.length ≤ j → j < ops.size → listed.getD j true = false) → listed = L := by
    rintro listed ⟨h1, h2, h3⟩
    apply Array.ext
    · rw [hLdef]; simp; omega
    · intro j hj hj'
      by_cases hjl : j < l.length
      · have := h2 j hjl
        simp [hj] at this
        rw [this]; simp [hLdef, Array.getElem_push, hjl]
      · have := h3 j (by omega) (by omega)
        simp [hj] at this
        rw [this]; simp [hLdef, Array.getElem_push, hjl]
  have hlex : ∀ (m k : Nat) (listed : Array Bool), k + m = l.length → (listed.size = ops.size ∧ (∀ j, j < k → listed.getD j true = true) ∧ ∀ j, k ≤ j → j < ops.size → listed.getD j true = false) →
      Region.lexFrom .any ops (m + 1) k listed = true → Region.lexFrom .any ops 1 l.length L = true := by
    intro m
    induction m with
    | zero =>
      intro k listed hk hinv hB
      rw [Nat.add_zero] at hk; subst hk
      rw [← hL listed hinv]; exact hB
    | succ m ih =>
      intro k listed hk hinv hB
      rw [Region.lexFrom] at hB
      simp only [Bool.and_eq_true] at hB
      refine ih (k + 1) _ (by omega) ⟨by simp [hinv.1], fun j hj => ?_, fun j hj hj' => ?_⟩ hB.2
      · by_cases hjk : k = j
        · subst hjk
          have hlt : k < listed.size := by rw [hinv.1]; omega
          simp [hlt]
        · rw [getD_set_ne true hjk]; exact hinv.2.1 j (by omega)
      · rw [getD_set_ne true (by omega)]; exact hinv.2.2 j (by omega) hj'
  have hinv0 : (Array.replicate ops.size false).size = ops.size ∧ (∀ j, j < 0 → (Array.replicate ops.size false).getD j true = true) ∧ ∀ j, 0 ≤ j → j < ops.size → (Array.replicate ops.size false).getD j true = false :=
    ⟨by simp, fun j hj => by omega, fun j _ hj => by simp [hj]⟩
  have hB2 : Region.lexFrom .any ops (l.length + 1) 0 (Array.replicate ops.size false) = true := by
    have := hB.2; rw [hsz] at this; rw [hsz]; exact this
  have hfin := hlex l.length 0 _ (by omega) hinv0 hB2
  simp only [Region.lexFrom, Bool.and_eq_true] at hfin
  obtain ⟨⟨hr, _⟩, he⟩ := hfin
  have hr' : l.length ∈ Region.ready .any ops L := by simpa using hr
  rw [show ops.size = l.length + 1 from hsz]
  refine wpAny_of_wpHead (n := l.length) hL (Q := fun a' => ∀ w', C w' → wpList P ops Q [o] a' w') (fun a' w' hw' hq => ?_) l.length _ a _ hC ?_
  · refine ⟨fun h0 => (by rw [h0] at hr'; cases hr'), fun i hi => ?_⟩
    obtain ⟨hun, oi, hoi, _⟩ := mem_ready.1 hi
    have hil : i < ops.size := (Array.getElem?_eq_some_iff.1 hoi).1
    have hi' : i = l.length := by
      rcases Nat.lt_or_ge i l.length with h' | h'
      · exfalso
        rw [hLdef] at hun
        simp [Array.getElem?_push, h', Nat.ne_of_lt h'] at hun
      · omega
    subst hi'
    have := hq w' hw'
    unfold wpOp
    simp only [hlast]
    have hend : ∀ a w, Q .normal a w → wpAny P .any ops Q 0 (L.setIfInBounds l.length true) a w := fun a w hh => ⟨by simpa using he, hh⟩
    unfold wpList at this
    split
    · rename_i hwn
      rw [if_pos hwn] at this
      rcases this with h1 | h1
      · exact .inl (Oper.wp_mono (fun a w hh => hend a w hh) h1)
      · exact .inr h1
    · rename_i hwn
      rw [if_neg hwn] at this
      exact hend _ _ this
  · rw [← hsz]
    exact wpHead_lex (g := 1) hB.1 (by omega) hwait l 0 _ a (fun j hj => by rw [Nat.zero_add]; exact hat j hj) (by omega) hinv0 hB2 h
end

theorem wp_region_last0 {P : Program} {id : Nat} {Q : Exit → Act → World → Prop} {a : Act} {w : World} (l : List Oper) (o : Oper) {l' : List Oper} (he : l' = l ++ [o]) (hm : P.follows .mixedOrders = true) (hB : Region.lexB .any l'.toArray = true) (hw : lastWaits .any l.length o = true)
    (h : wpQuiet P l'.toArray (fun w' => ∃ X, w' = w.over X) (fun a' => ∀ w', (∃ X, w' = w.over X) → wpList P l'.toArray Q [o] a' w') l a) : (Code.region id l'.toArray true).wp P Q a w := by
  subst he
  exact wp_region_last (C := fun w' => ∃ X, w' = w.over X) hm hB hw ⟨⟨#[], w.drawn + 1⟩, by simp [World.over]⟩ h
theorem wp_region_last1 {P : Program} {id : Nat} {Q : Exit → Act → World → Prop} {a : Act} {w : World} {X0 : Ext} (l : List Oper) (o : Oper) {l' : List Oper} (he : l' = l ++ [o]) (hm : P.follows .mixedOrders = true) (hB : Region.lexB .any l'.toArray = true) (hw : lastWaits .any l.length o = true)
    (h : wpQuiet P l'.toArray (fun w' => ∃ X, w' = w.over X) (fun a' => ∀ w', (∃ X, w' = w.over X) → wpList P l'.toArray Q [o] a' w') l a) : (Code.region id l'.toArray true).wp P Q a (w.over X0) := by
  subst he
  exact wp_region_last (C := fun w' => ∃ X, w' = w.over X) hm hB hw ⟨⟨X0.blocks, X0.drawn + 1⟩, rfl⟩ h
theorem wp_region_lastD0 {P : Program} {id : Nat} {Q : Exit → Act → World → Prop} {a : Act} {w : World} {l : List Oper} (hne : l ≠ []) (hm : P.follows .mixedOrders = true) (hB : Region.lexB .any l.toArray = true) (hw : lastWaits .any l.dropLast.length (l.getLast hne) = true)
    (h : wpQuiet P l.toArray (fun w' => ∃ X, w' = w.over X) (fun a' => ∀ w', (∃ X, w' = w.over X) → wpList P l.toArray Q [l.getLast hne] a' w') l.dropLast a) : (Code.region id l.toArray true).wp P Q a w :=
  wp_region_last0 l.dropLast (l.getLast hne) (List.dropLast_concat_getLast hne).symm hm hB hw h
theorem wp_region_lastD1 {P : Program} {id : Nat} {Q : Exit → Act → World → Prop} {a : Act} {w : World} {X0 : Ext} {l : List Oper} (hne : l ≠ []) (hm : P.follows .mixedOrders = true) (hB : Region.lexB .any l.toArray = true) (hw : lastWaits .any l.dropLast.length (l.getLast hne) = true)
    (h : wpQuiet P l.toArray (fun w' => ∃ X, w' = w.over X) (fun a' => ∀ w', (∃ X, w' = w.over X) → wpList P l.toArray Q [l.getLast hne] a' w') l.dropLast a) : (Code.region id l.toArray true).wp P Q a (w.over X0) :=
  wp_region_last1 l.dropLast (l.getLast hne) (List.dropLast_concat_getLast hne).symm hm hB hw h
instance : Nonempty Ext := ⟨⟨#[], 0⟩⟩
/-- a float, stored -/
@[go_sem] theorem run_store_float (P : Program) (w : World) (a : Addr) (m : Mode) (k : FloatKind) (b : Nat) : (store a (.float k b) m).run P w = stored P w a (.float k b) m := run_store P w a _ m rfl
end Go
