/- The quotients of layer 1: the document's. -/
import Derived.Test.YtknijppdnfcknaaDc
import Derived.Test.YtknijppdnfcknaaRf
namespace Go.Proofs.Ytknijppdnfcknaa
open Go.RowKit FF

/-- bit by bit: after i rounds -/
structure Bits (A B i out rest : Nat) : Prop where
  eq : A * 2^i = 2 * out * B + rest
  lt : rest < 2 * B
theorem Bits.start {A B : Nat} (h : A < 2 * B) : Bits A B 0 0 A := ⟨by simp, h⟩
theorem Bits.out_lt {A B i out rest : Nat} (h : Bits A B i out rest) (hA : A < 2 * B) : out < 2^i := by
  have e := h.eq
  have hB : 0 < 2 * B := by omega
  have h1 : A * 2^i < 2 * B * 2^i := Nat.mul_lt_mul_of_pos_right hA (Nat.two_pow_pos i)
  have h2 : out * (2 * B) < 2^i * (2 * B) := by
    have : out * (2 * B) = 2 * out * B := by ac_rfl
    rw [this, Nat.mul_comm (2^i)]; omega
  exact Nat.lt_of_mul_lt_mul_right h2
theorem Bits.yes {A B i out rest : Nat} (h : Bits A B i out rest) (hc : B ≤ rest) : Bits A B (i + 1) (2 * out + 1) (2 * (rest - B)) := by
  obtain ⟨e, l⟩ := h
  refine ⟨?_, by omega⟩
  rw [Nat.pow_succ, ← Nat.mul_assoc, e]
  have h1 : 2 * (2 * out + 1) * B = 2 * (2 * out * B) + 2 * B := by rw [Nat.mul_add, Nat.add_mul]; congr 1; ac_rfl
  rw [h1]
  generalize 2 * out * B = C at *
  omega
theorem Bits.no {A B i out rest : Nat} (h : Bits A B i out rest) (hc : rest < B) : Bits A B (i + 1) (2 * out) (2 * rest) := by
  obtain ⟨e, l⟩ := h
  refine ⟨?_, by omega⟩
  rw [Nat.pow_succ, ← Nat.mul_assoc, e]
  have h1 : 2 * (2 * out) * B = 2 * (2 * out * B) := by ac_rfl
  rw [h1]
  generalize 2 * out * B = C at *
  omega
theorem Bits.stop {A B i out rest : Nat} (h : Bits A B i out rest) : A * 2^i / (2 * B) = out ∧ A * 2^i % (2 * B) = rest := by
  have hB : 0 < 2 * B := by have := h.lt; omega
  have e : A * 2^i = 2 * B * out + rest := by rw [h.eq]; congr 1; ac_rfl
  constructor
  · rw [e, Nat.mul_add_div hB, Nat.div_eq_of_lt h.lt, Nat.add_zero]
  · rw [e, Nat.mul_add_mod, Nat.mod_eq_of_lt h.lt]
def dvA2 (x : Nat) : Nat := mnt x * 2 ^ (53 - blen (mnt x))
theorem bits_or1 (n : Nat) (h : n < 9223372036854775808) : bits .or .u64 ((2 * n : Nat) : Int) 1 = ((2 * n + 1 : Nat) : Int) := by
  have := u64_or_nat (2 * n) 1 (by omega) (by omega)
  rw [show (((1 : Nat)) : Int) = 1 from rfl] at this
  rw [this, nat_join1 _ _ (by omega) (by omega)]
set_option maxRecDepth 100000 in
set_option maxHeartbeats 4000000 in
theorem rdiv2_main (x y : Nat) (down : Bool) (hx : x < 18446744073709551616) (hy : y < 18446744073709551616) (fx : fin x) (fy : fin y) (zx : rg x ≠ 0) (zy : rg y ≠ 0) :
    Bl 80 #[.float .f64 x, .float .f64 y, .bool down] (.tuple #[.float .f64 (rndW down (ng x != ng y) (V (rg x) * U) (V (rg y))), .int .i64 0]) := by
  intro w
  have NX : Bl 39 #[.float .f64 x] (.bool true) := by have := rnum_b x; rw [decide_eq_true fx] at this; exact this
  have NY : Bl 39 #[.float .f64 y] (.bool true) := by have := rnum_b y; rw [decide_eq_true fy] at this; exact this
  have ex : (FloatKind.f64.format.order x 0 == some .eq) = false := by
    rw [show FloatKind.f64.format = Ieee.double from rfl, eq_num fx.nn (by decide), I_zero]; simp; exact mt I_eq_zero.1 zx
  have ey : (FloatKind.f64.format.order y 0 == some .eq) = false := by
    rw [show FloatKind.f64.format = Ieee.double from rfl, eq_num fy.nn (by decide), I_zero]; simp; exact mt I_eq_zero.1 zy
  have PX := Lib.hid (part_b x hx)
  have PY := Lib.hid (part_b y hy)
  replace NX := Lib.hid NX; replace NY := Lib.hid NY
  have my := mnt_ne zy
  have mx := mnt_ne zx
  have m1 := mnt_lt x; have m2 := mnt_lt y
  have e1 := exo_ge x; have e2 := exo_le x; have e3 := exo_ge y; have e4 := exo_le y
  have b1 : blen (mnt x) ≤ 53 := blen_le_of_lt (n := 53) (by omega)
  have b2 : blen (mnt y) ≤ 53 := blen_le_of_lt (n := 53) (by omega)
  have p1 := blen_pos mx
  have p2 := blen_pos my
  obtain ⟨hA1, hA2⟩ := dvB_lt mx
  obtain ⟨hB1, hB2⟩ := dvB_lt my
  have LX := Lib.hid (rlen_b (mnt x) (exo x) false (by omega))
  have LY := Lib.hid (rlen_b (mnt y) (exo y) false (by omega))
  have nx : (53 - (blen (mnt x) : Int)).toNat = 53 - blen (mnt x) := by omega
  have ny : (53 - (blen (mnt y) : Int)).toNat = 53 - blen (mnt y) := by omega
  have MX := up_b (mnt x) (exo x) false (53 - (blen (mnt x) : Int)) (by omega) (by rw [nx]; exact Nat.lt_trans hA1 (by omega)) (by omega) (by omega) (by omega)
  have MY := up_b (mnt y) (exo y) false (53 - (blen (mnt y) : Int)) (by omega) (by rw [ny]; exact Nat.lt_trans hB1 (by omega)) (by omega) (by omega) (by omega)
  rw [nx] at MX; rw [ny] at MY
  have w1 : IntKind.i64.wrap (53 - (blen (mnt x) : Int)) = 53 - (blen (mnt x) : Int) := IntWalk.i64_in _ (by omega)
  have w2 : IntKind.i64.wrap (53 - (blen (mnt y) : Int)) = 53 - (blen (mnt y) : Int) := IntWalk.i64_in _ (by omega)
  obtain ⟨sn, hsn⟩ : ∃ sn, sn = (ng x != ng y) := ⟨_, rfl⟩
  obtain ⟨E, hE⟩ : ∃ E : Int, E = (exo x - (53 - (blen (mnt x) : Int))) - (exo y - (53 - (blen (mnt y) : Int))) - 59 := ⟨_, rfl⟩
  have law := div_law (x := x) (y := y) (a := 53 - blen (mnt x) + 60) (b := 53 - blen (mnt y) + 1) (neg := sn) (down := down) my (E := E) (by omega)
  rw [show mnt x * 2 ^ (53 - blen (mnt x) + 60) = dvB x * 2^60 by unfold dvB; rw [Nat.pow_add, Nat.mul_assoc], show mnt y * 2 ^ (53 - blen (mnt y) + 1) = 2 * dvB y by unfold dvB; rw [Nat.pow_succ]; ac_rfl] at law
  rw [show mnt x * 2 ^ (53 - blen (mnt x)) = dvB x from rfl] at MX
  rw [show mnt y * 2 ^ (53 - blen (mnt y)) = dvB y from rfl] at MY
  obtain ⟨F, hF⟩ : ∃ F : Int, F = E + 59 := ⟨_, rfl⟩
  have w3 : IntKind.i64.wrap ((exo x - (53 - (blen (mnt x) : Int))) - (exo y - (53 - (blen (mnt y) : Int)))) = F := by rw [hF, hE]; exact (IntWalk.i64_in _ (by omega)).trans (by omega)
  have hEb : -10000 ≤ E ∧ E ≤ 10000 := by omega
  have w4 : IntKind.i64.wrap (F - 59) = E := (IntWalk.i64_in _ (by omega)).trans (by omega)
  rw [← hsn]
  have hge : 2^53 ≤ dvB x * 2^60 / (2 * dvB y) := by
    rw [Nat.le_div_iff_mul_le (by omega)]; omega
  replace law := law (fun _ => hge)
  obtain ⟨r, hr⟩ : ∃ r, r = rndW down sn (V (rg x) * U) (V (rg y)) := ⟨_, rfl⟩
  rw [← hr] at law ⊢
  obtain ⟨n1, hn1⟩ : ∃ n, n = 53 - (blen (mnt x) : Int) := ⟨_, rfl⟩
  obtain ⟨n2, hn2⟩ : ∃ n, n = 53 - (blen (mnt y) : Int) := ⟨_, rfl⟩
  rw [← hn1] at w3 MX
  rw [← hn2] at w3 MY
  replace w1 : IntKind.i64.wrap (53 - (blen (mnt x) : Int)) = n1 := by rw [hn1]; exact w1
  replace w2 : IntKind.i64.wrap (53 - (blen (mnt y) : Int)) = n2 := by rw [hn2]; exact w2
  generalize dvB x = A at *
  generalize dvB y = B at *
  have hAW : hiW A = 0 ∧ loW A = (A : Int) := by unfold hiW loW; omega
  have hBW : hiW B = 0 ∧ loW B = (B : Int) := by unfold hiW loW; omega
  rw [woN, woN, hBW.1, hBW.2] at MY
  rw [woN, woN, hAW.1, hAW.2] at MX
  replace MX := Lib.hid MX; replace MY := Lib.hid MY
  have hAB : A < 2 * B := by omega
  have HAB := Lib.hid (And.intro hAB (And.intro hEb (And.intro law (And.intro hge (And.intro hB1 hA1)))))
  have hsn' : (!(ng x == ng y)) = sn := by rw [hsn]; rfl
  generalize exo x - n1 = E1 at *
  generalize exo y - n2 = E2 at *
  clear hAB hEb law hge hAW hBW hn1 hn2 nx ny hA1 hA2 hB1 hB2 p1 p2 b1 b2 e1 e2 e3 e4 m1 m2 mx my zx zy fx fy hx hy hE hsn hr hF
  go_enter Try.func80, Try.ntmps80
  go_upto_region 9 with (first | ((with_reducible refine ((NX.out).at _).mono ?_); rintro _ _ ⟨rfl, X, rfl⟩) | ((with_reducible refine ((NY.out).at _).mono ?_); rintro _ _ ⟨rfl, X, rfl⟩) | ((with_reducible refine ((PX.out).at _).mono ?_); rintro _ _ ⟨rfl, X, rfl⟩) | ((with_reducible refine ((PY.out).at _).mono ?_); rintro _ _ ⟨rfl, X, rfl⟩))
  generalize (Ext.and _ _) = X1
  generalize X = X2
  clear PX PY NX NY ex ey
  have hd1 : ∀ Y : Ext, w.heap.size + X1.n < w.heap.size + X1.n + 1 + X2.n + 1 + Y.n := fun Y => by omega
  have hd2 : w.heap.size + X1.n < w.heap.size + X1.n + 1 + X2.n + 1 := by omega
  refine wp_region_lastD0 (List.cons_ne_nil _ _) (by kernel_rfl) (by kernel_rfl) (by kernel_rfl) ?_; simp only [List.dropLast_cons_cons, List.dropLast_singleton, List.getLast_cons_cons, List.getLast_singleton]
  repeat (go_big_quiet_step (first | (with_reducible exact LX.out.quiet _ _) | (with_reducible exact MX.out.quiet _ _)))
  refine wpQuiet_nil ?_; intro _ hw'; obtain ⟨X, hw''⟩ := hw'; subst hw''
  go_wp2_with fail
  clear LX MX w1
  refine wp_region_lastD1 (List.cons_ne_nil _ _) (by kernel_rfl) (by kernel_rfl) (by kernel_rfl) ?_; simp only [List.dropLast_cons_cons, List.dropLast_singleton, List.getLast_cons_cons, List.getLast_singleton]
  repeat (go_big_quiet_step (first | (with_reducible exact LY.out.quiet _ _) | (with_reducible exact MY.out.quiet _ _)))
  refine wpQuiet_nil ?_; intro _ hw'; obtain ⟨X, hw''⟩ := hw'; subst hw''
  clear LY MY w2
  go_upto_block 0 with fail
  go_cut [12, 13] (fun s12 s13 wx => (∃ out rest : Nat, s12 = .int .u64 (rest : Int) ∧ s13 = .int .u64 (out : Int) ∧ Hid (Bits A B 60 out rest)) ∧ wx = ((((w.over X1).alloc (.cells #[.int .u64 0, .int .u64 (A : Int), .int .i64 E1, .bool false] 129)).over X2).alloc (.cells #[.int .u64 0, .int .u64 (B : Int), .int .i64 E2, .bool false] 129)).over X)
  case first => as_aux_lemma =>
    go_wp2_with fail
    go_loop [12, 13, 14] (fun r o i => ∃ i' o' r' : Nat, i = .int .i64 (i' : Int) ∧ o = .int .u64 (o' : Int) ∧ r = .int .u64 (r' : Int) ∧ Hid (Bits A B i' o' r' ∧ i' ≤ 60)) (fun _ _ i => (60 - intOf i).toNat)
    case atStart => exact ⟨0, 0, A, rfl, rfl, rfl, Lib.hid ⟨Bits.start HAB.out.1, by omega⟩⟩
    case round =>
      obtain ⟨i, o, r, rfl, rfl, rfl, hR⟩ := hrel
      obtain ⟨hB, hi60⟩ := hR.out
      have ho := hB.out_lt HAB.out.1
      have ho2 : o < 1152921504606846976 := Nat.lt_of_lt_of_le ho (Nat.pow_le_pow_right (by omega) hi60)
      have hr := hB.lt
      have hBl := HAB.out.2.2.2.2.1
      by_cases hi : i < 60
      · have hiD : decide ((i : Int) < 60) = true := by simp; omega
        obtain ⟨o2, hoe⟩ : ∃ o2, o2 = 2 * o := ⟨_, rfl⟩
        obtain ⟨j, hj⟩ : ∃ j, j = i + 1 := ⟨_, rfl⟩
        have w5 : IntKind.u64.wrap ((o : Int) * 2) = (o2 : Int) := by rw [wrap_u64]; omega
        have w6 : IntKind.i64.wrap ((i : Int) + 1) = (j : Int) := (IntWalk.i64_in _ (by omega)).trans (by omega)
        have hij := Lib.hid (And.intro hj hi)
        by_cases hc : B ≤ r
        · have hcD : decide (B ≤ r) = true := by simp; exact hc
          have hN := hB.yes hc
          obtain ⟨r1, hr1⟩ : ∃ r1, r1 = r - B := ⟨_, rfl⟩
          obtain ⟨r2, hr2⟩ : ∃ r2, r2 = 2 * r1 := ⟨_, rfl⟩
          obtain ⟨o3, ho3⟩ : ∃ o3, o3 = o2 + 1 := ⟨_, rfl⟩
          rw [← hr1, ← hr2, ← hoe, ← ho3, ← hj] at hN
          have w7 : IntKind.u64.wrap ((r : Int) - B) = (r1 : Int) := by rw [wrap_u64]; omega
          have w8 : IntKind.u64.wrap ((r1 : Int) * 2) = (r2 : Int) := by rw [wrap_u64]; omega
          have w9 : bits .or .u64 (o2 : Int) 1 = (o3 : Int) := by rw [ho3, hoe]; exact bits_or1 o (by omega)
          have HN := Lib.hid hN
          clear hN hr1 hr2 ho3 hoe hj hc hB hi60 ho ho2 hr hBl hi hR HAB
          go_wp2_with fail
          exact ⟨⟨j, o3, r2, rfl, rfl, rfl, Lib.hid ⟨HN.out, by have := hij.out; omega⟩⟩, by have := hij.out; simp [intOf]; omega⟩
        · have hcD : decide (B ≤ r) = false := by simp; omega
          have hN := hB.no (by omega)
          obtain ⟨r2, hr2⟩ : ∃ r2, r2 = 2 * r := ⟨_, rfl⟩
          rw [← hr2, ← hoe, ← hj] at hN
          have w8 : IntKind.u64.wrap ((r : Int) * 2) = (r2 : Int) := by rw [wrap_u64]; omega
          have HN := Lib.hid hN
          clear hN hr2 hoe hj hc hB hi60 ho ho2 hr hBl hi hR HAB
          go_wp2_with fail
          exact ⟨⟨j, o2, r2, rfl, rfl, rfl, Lib.hid ⟨HN.out, by have := hij.out; omega⟩⟩, by have := hij.out; simp [intOf]; omega⟩
      · have hi' : i = 60 := by omega
        subst hi'
        have HB := Lib.hid hB
        clear hB hi60 ho ho2 hr hBl hi hR HAB
        go_wp2_with fail
        go_meet
        exact ⟨⟨_, _, rfl, rfl, HB⟩, rfl⟩
  case rest => as_aux_lemma =>
    obtain ⟨⟨o, r1, rfl, rfl, hR⟩, rfl⟩ := hcut
    obtain ⟨hAB, hEb, law, hge, hBl, hAl⟩ := HAB.out
    have hS := hR.out.stop
    have ho := hR.out.out_lt hAB
    have hrl := hR.out.lt
    rw [hS.1, hS.2] at law
    rw [hS.1] at hge
    have hol : o < 1152921504606846976 := ho
    obtain ⟨m, hm⟩ : ∃ m : Bool, m = decide (r1 ≠ 0) := ⟨_, rfl⟩
    have hm2 : ((r1 : Int) != 0) = m := by rw [hm]; by_cases h : r1 = 0 <;> simp [h]
    rw [← hm] at law
    have hoW : hiW o = 0 ∧ loW o = (o : Int) := by unfold hiW loW; omega
    have TO := rto_b sn o E m down (by omega) hEb.1 hEb.2 (fun h => by
      exfalso
      have := Nat.lt_of_lt_of_le (blen_lt o) (Nat.pow_le_pow_right (by omega) h); omega)
    rw [law, woN, hoW.1, hoW.2] at TO
    replace TO := Lib.hid TO
    clear hAB hEb law hge hBl hAl hS ho hrl hol hm hoW hR HAB
    go_wp2_with ((with_reducible refine ((TO.out).at _).mono ?_); rintro _ _ ⟨rfl, X, rfl⟩)
    refine bodyPost_ret (v := _) (by simp [results, Try.results80, go_sem] <;> rfl) rfl ⟨rfl, ?_⟩
    repeat (first | exact Below.refl _ _ | refine Below.drew ?_ | refine below_drewN ?_ _ | refine Below.over ?_ (by simp <;> omega) _ | refine Below.alloc ?_ (by simp <;> omega) _ | refine Below.setCell ?_ (by simp <;> omega) _ | refine Below.alloc ?_ (by simp) _ | refine Below.setCell ?_ (by simp) _ | refine Below.over ?_ (by simp) _)
/-- the document's quotient of two numbers -/
theorem rdiv2_b (x y : Nat) (down : Bool) (hx : x < 18446744073709551616) (hy : y < 18446744073709551616) :
    Bl 80 #[.float .f64 x, .float .f64 y, .bool down] (.tuple #[.float .f64 (divR x y down), .int .i64 (divE x y)]) := by
  have NX := Lib.hid (rnum_b x)
  have NY := Lib.hid (rnum_b y)
  by_cases h : fin x ∧ fin y
  · rw [decide_eq_true h.1] at NX
    rw [decide_eq_true h.2] at NY
    have ey : (FloatKind.f64.format.order y 0 == some .eq) = decide (rg y = 0) := by
      rw [show FloatKind.f64.format = Ieee.double from rfl, eq_num h.2.nn (by decide), I_zero]; exact decide_eq_decide.2 I_eq_zero
    have ex : (FloatKind.f64.format.order x 0 == some .eq) = decide (rg x = 0) := by
      rw [show FloatKind.f64.format = Ieee.double from rfl, eq_num h.1.nn (by decide), I_zero]; exact decide_eq_decide.2 I_eq_zero
    by_cases zy : rg y = 0
    · have e1 : divR x y down = 0 := by unfold divR; rw [if_neg (fun h => h.2.2 zy)]
      have e2 : divE x y = 11 := by unfold divE; rw [if_pos h, if_pos zy]
      rw [e1, e2]
      rw [decide_eq_true zy] at ey
      clear e1 e2 h zy hx hy ex
      intro w
      go_enter Try.func80, Try.ntmps80
      go_wp2_with (first | ((with_reducible refine ((NX.out).at _).mono ?_); rintro _ _ ⟨rfl, X, rfl⟩) | ((with_reducible refine ((NY.out).at _).mono ?_); rintro _ _ ⟨rfl, X, rfl⟩))
      refine bodyPost_ret (v := _) (by simp [results, Try.results80, go_sem] <;> rfl) rfl ⟨rfl, ?_⟩
      repeat (first | exact Below.refl _ _ | refine Below.drew ?_ | refine below_drewN ?_ _ | refine Below.over ?_ (by simp <;> omega) _ | refine Below.alloc ?_ (by simp <;> omega) _ | refine Below.setCell ?_ (by simp <;> omega) _ | refine Below.alloc ?_ (by simp) _ | refine Below.setCell ?_ (by simp) _ | refine Below.over ?_ (by simp) _)
    · have e2 : divE x y = 0 := by unfold divE; rw [if_pos h, if_neg zy]
      have e1 : divR x y down = rndW down (ng x != ng y) (V (rg x) * U) (V (rg y)) := by unfold divR; rw [if_pos ⟨h.1, h.2, zy⟩]
      rw [e1, e2]
      by_cases zx : rg x = 0
      · rw [zx, V_zero, Nat.zero_mul, rndW_zero]
        rw [decide_eq_false zy] at ey
        rw [decide_eq_true zx] at ex
        clear e1 e2 h zy zx hx hy
        intro w
        go_enter Try.func80, Try.ntmps80
        go_wp2_with (first | ((with_reducible refine ((NX.out).at _).mono ?_); rintro _ _ ⟨rfl, X, rfl⟩) | ((with_reducible refine ((NY.out).at _).mono ?_); rintro _ _ ⟨rfl, X, rfl⟩))
        refine bodyPost_ret (v := _) (by simp [results, Try.results80, go_sem] <;> rfl) rfl ⟨rfl, ?_⟩
        repeat (first | exact Below.refl _ _ | refine Below.drew ?_ | refine below_drewN ?_ _ | refine Below.over ?_ (by simp <;> omega) _ | refine Below.alloc ?_ (by simp <;> omega) _ | refine Below.setCell ?_ (by simp <;> omega) _ | refine Below.alloc ?_ (by simp) _ | refine Below.setCell ?_ (by simp) _ | refine Below.over ?_ (by simp) _)
      · exact rdiv2_main x y down hx hy h.1 h.2 zx zy
  · have e1 : divR x y down = 0 := by unfold divR; rw [if_neg (fun h' => h ⟨h'.1, h'.2.1⟩)]
    have e2 : divE x y = 10 := by unfold divE; rw [if_neg h]
    rw [e1, e2]
    by_cases fx : fin x
    · rw [decide_eq_true fx] at NX
      rw [decide_eq_false (fun hy => h ⟨fx, hy⟩)] at NY
      clear e1 e2 h fx hx hy
      intro w
      go_enter Try.func80, Try.ntmps80
      go_wp2_with (first | ((with_reducible refine ((NX.out).at _).mono ?_); rintro _ _ ⟨rfl, X, rfl⟩) | ((with_reducible refine ((NY.out).at _).mono ?_); rintro _ _ ⟨rfl, X, rfl⟩))
      refine bodyPost_ret (v := _) (by simp [results, Try.results80, go_sem] <;> rfl) rfl ⟨rfl, ?_⟩
      repeat (first | exact Below.refl _ _ | refine Below.drew ?_ | refine below_drewN ?_ _ | refine Below.over ?_ (by simp <;> omega) _ | refine Below.alloc ?_ (by simp <;> omega) _ | refine Below.setCell ?_ (by simp <;> omega) _ | refine Below.alloc ?_ (by simp) _ | refine Below.setCell ?_ (by simp) _ | refine Below.over ?_ (by simp) _)
    · rw [decide_eq_false fx] at NX
      clear e1 e2 h fx hx hy
      intro w
      go_enter Try.func80, Try.ntmps80
      go_wp2_with (first | ((with_reducible refine ((NX.out).at _).mono ?_); rintro _ _ ⟨rfl, X, rfl⟩) | ((with_reducible refine ((NY.out).at _).mono ?_); rintro _ _ ⟨rfl, X, rfl⟩))
      refine bodyPost_ret (v := _) (by simp [results, Try.results80, go_sem] <;> rfl) rfl ⟨rfl, ?_⟩
      repeat (first | exact Below.refl _ _ | refine Below.drew ?_ | refine below_drewN ?_ _ | refine Below.over ?_ (by simp <;> omega) _ | refine Below.alloc ?_ (by simp <;> omega) _ | refine Below.setCell ?_ (by simp <;> omega) _ | refine Below.alloc ?_ (by simp) _ | refine Below.setCell ?_ (by simp) _ | refine Below.over ?_ (by simp) _)
end Go.Proofs.Ytknijppdnfcknaa
