/- The walks of the document's answer for layer 1: 'Add'. -/
import Derived.Test.YtknijppdnfcknaaRe
import Derived.Test.YtknijppdnfcknaaWy
import Derived.Test.YtknijppdnfcknaaXa
namespace Go.Proofs.Ytknijppdnfcknaa
open Go.RowKit FF

theorem rndI_self {x : Nat} (h : fin x) (hx : x < 18446744073709551616) (down : Bool) : rndI down (I x) = pl x := by
  unfold rndI rndW
  have hn : (I x).natAbs = V (rg x) := by unfold I; split <;> omega
  have h1 : clq (I x).natAbs 1 = rg x := clq_exact (by omega) (by omega)
  have h2 : flq (I x).natAbs 1 = rg x := flq_exact (by omega) (by omega)
  rw [h1, h2]
  unfold fin at h
  rw [Nat.min_eq_left (by omega), Nat.min_eq_left (by omega)]
  simp only [ite_self]
  unfold pl
  by_cases h0 : rg x = 0
  · rw [if_pos h0, if_pos h0]
  · rw [if_neg h0, if_neg h0]
    have hs : decide (I x < 0) = ng x := by
      have : 0 < V (rg x) := by have := @V_mono 0 (rg x) (by omega); rw [V_zero] at this; exact this
      unfold I; cases ng x <;> simp <;> omega
    rw [hs, word_rg hx]
theorem mnt_zero {x : Nat} : mnt x = 0 ↔ rg x = 0 := by
  unfold mnt rg
  split <;> omega
theorem swp_pos {Na Nb : Nat} {ea eb : Int} (ha : Na ≠ 0) (hb : Nb ≠ 0) : swp Na Nb ea eb = decide (ea + blen Na < eb + blen Nb) := by
  unfold swp; rw [decide_eq_false ha, decide_eq_false hb]; simp
theorem more_small {Nb : Nat} {eb e : Int} (h : bMore Nb eb e = true) (hN : Nb < 9007199254740992) : bAt Nb eb e < 9007199254740992 := by
  unfold bMore at h; unfold bAt
  split at h
  · cases h
  · rename_i hh; rw [if_neg hh]; exact Nat.lt_of_le_of_lt (Nat.div_le_self _ _) hN
/-- the two, the greater first -/
structure Two (x y : Nat) (nc nd : Bool) (Nc Nd : Nat) (ec ed : Int) : Prop where
  res : sumW (ng x) (mnt x) (exo x) (ng y) (mnt y) (exo y) = sumV nc Nc ec nd Nd ed
  c0 : Nc ≠ 0
  d0 : Nd ≠ 0
  ord : ed + (blen Nd : Int) ≤ ec + (blen Nc : Int)
  c1 : Nc < 9007199254740992
  d1 : Nd < 9007199254740992
  c2 : -1074 ≤ ec
  c3 : ec ≤ 971
  d2 : -1074 ≤ ed
  d3 : ed ≤ 971
theorem exo_fin {x : Nat} (h : fin x) : exo x ≤ 971 := by
  unfold fin rg at h; unfold exo; split <;> omega
theorem two_of {x y : Nat} (hx : fin x) (hy : fin y) (zx : rg x ≠ 0) (zy : rg y ≠ 0) (s : Bool) (hs : s = decide (exo x + blen (mnt x) < exo y + blen (mnt y))) :
    Two x y (if s then ng y else ng x) (if s then ng x else ng y) (if s then mnt y else mnt x) (if s then mnt x else mnt y) (if s then exo y else exo x) (if s then exo x else exo y) := by
  have mx := mt mnt_zero.1 zx; have my := mt mnt_zero.1 zy
  have sw := swp_pos (ea := exo x) (eb := exo y) mx my
  rw [← hs] at sw
  have a1 := mnt_lt x; have a2 := mnt_lt y; have b1 := exo_ge x; have b2 := exo_ge y; have d1 := exo_fin hx; have d2 := exo_fin hy
  cases s
  · simp at hs
    exact ⟨by unfold sumW; rw [sw]; rfl, mx, my, by simp; omega, a1, a2, b1, d1, b2, d2⟩
  · simp at hs
    exact ⟨by unfold sumW; rw [sw]; rfl, my, mx, by simp; omega, a2, a1, b2, d2, b1, d1⟩
set_option maxRecDepth 100000 in
set_option maxHeartbeats 4000000 in
theorem radd2_main (x y : Nat) (down : Bool) (hx : x < 18446744073709551616) (hy : y < 18446744073709551616) (fx : fin x) (fy : fin y) (zx : rg x ≠ 0) (zy : rg y ≠ 0) :
    Bl 64 #[.float .f64 x, .float .f64 y, .bool down] (.tuple #[.float .f64 (rndI down (I x + I y)), .int .i64 0]) := by
  intro w
  obtain ⟨s, hs⟩ : ∃ s : Bool, s = decide (exo x + blen (mnt x) < exo y + blen (mnt y)) := ⟨_, rfl⟩
  have TW := two_of fx fy zx zy s hs
  have NX : Bl 39 #[.float .f64 x] (.bool true) := by have := rnum_b x; rw [decide_eq_true fx] at this; exact this
  have NY : Bl 39 #[.float .f64 y] (.bool true) := by have := rnum_b y; rw [decide_eq_true fy] at this; exact this
  have ex : (FloatKind.f64.format.order x 0 == some .eq) = false := by
    rw [show FloatKind.f64.format = Ieee.double from rfl, eq_num fx.nn (by decide), I_zero]; simp; exact mt I_eq_zero.1 zx
  have ey : (FloatKind.f64.format.order y 0 == some .eq) = false := by
    rw [show FloatKind.f64.format = Ieee.double from rfl, eq_num fy.nn (by decide), I_zero]; simp; exact mt I_eq_zero.1 zy
  have PX := Lib.hid (part_b x hx)
  have PY := Lib.hid (part_b y hy)
  have NX' := Lib.hid NX; have NY' := Lib.hid NY
  rw [← add_law]
  have mx := mnt_lt x; have my := mnt_lt y
  have bx : blen (mnt x) ≤ 53 := blen_le_of_lt (n := 53) (by omega)
  have bY : blen (mnt y) ≤ 53 := blen_le_of_lt (n := 53) (by omega)
  have b1 := exo_ge x; have b2 := exo_ge y; have d1 := exo_fin fx; have d2 := exo_fin fy
  have hw1 : IntKind.i64.wrap ((blen (mnt x) : Int) + exo x) = (blen (mnt x) : Int) + exo x := IntWalk.i64_in _ (by omega)
  have hw2 : IntKind.i64.wrap ((blen (mnt y) : Int) + exo y) = (blen (mnt y) : Int) + exo y := IntWalk.i64_in _ (by omega)
  have LX := Lib.hid (rlen_b (mnt x) (exo x) false (by omega))
  have LY := Lib.hid (rlen_b (mnt y) (exo y) false (by omega))
  have HS := Lib.hid hs
  rw [TW.res]
  obtain ⟨nc, hnc⟩ : ∃ v, v = if s then ng y else ng x := ⟨_, rfl⟩
  obtain ⟨nd, hnd⟩ : ∃ v, v = if s then ng x else ng y := ⟨_, rfl⟩
  obtain ⟨Nc, hNc⟩ : ∃ v, v = if s then mnt y else mnt x := ⟨_, rfl⟩
  obtain ⟨Nd, hNd⟩ : ∃ v, v = if s then mnt x else mnt y := ⟨_, rfl⟩
  obtain ⟨ec, hec⟩ : ∃ v, v = if s then exo y else exo x := ⟨_, rfl⟩
  obtain ⟨ed, hed⟩ : ∃ v, v = if s then exo x else exo y := ⟨_, rfl⟩
  rw [← hnc, ← hnd, ← hNc, ← hNd, ← hec, ← hed] at TW ⊢
  have HC := Lib.hid (And.intro hnc (And.intro hNc (And.intro hec (And.intro hnd (And.intro hNd hed)))))
  obtain ⟨r, hr⟩ : ∃ r, r = toW (sumV nc Nc ec nd Nd ed).1 (sumV nc Nc ec nd Nd ed).2.1 (sumV nc Nc ec nd Nd ed).2.2.1 (sumV nc Nc ec nd Nd ed).2.2.2 down := ⟨_, rfl⟩
  rw [← hr]
  have HR := Lib.hid hr
  have TW' := Lib.hid TW
  clear hs hnc hnd hNc hNd hec hed hr TW NX NY fx fy zx zy hx hy mx my bx bY b1 b2 d1 d2
  go_enter Try.func64, Try.ntmps64
  go_upto_region 9 with (first | ((with_reducible refine ((NX'.out).at _).mono ?_); rintro _ _ ⟨rfl, X, rfl⟩) | ((with_reducible refine ((NY'.out).at _).mono ?_); rintro _ _ ⟨rfl, X, rfl⟩) | ((with_reducible refine ((PX.out).at _).mono ?_); rintro _ _ ⟨rfl, X, rfl⟩) | ((with_reducible refine ((PY.out).at _).mono ?_); rintro _ _ ⟨rfl, X, rfl⟩))
  generalize (Ext.and _ _) = X1
  generalize X = X2
  clear PX PY NX' NY' ex ey
  go_cut [48] (fun s48 wx => s48 = .bool s ∧ ∃ X, wx = ((((w.over X1).alloc (woO (mnt x) (exo x) false)).over X2).alloc (woO (mnt y) (exo y) false)).over X)
  case first => as_aux_lemma =>
    clear HC HR TW'
    refine wp_region_over0 (by kernel_rfl) (by kernel_rfl) ?_
    repeat (go_big_quiet_step (first | (with_reducible exact LX.out.quiet _ _) | (with_reducible exact LY.out.quiet _ _)))
    refine wpQuiet_nil ?_; intro _ hw'; obtain ⟨X, hw''⟩ := hw'; subst hw''
    go_wp2_with fail
    go_meet
    refine ⟨?_, _, rfl⟩
    rw [HS.out, Int.add_comm (exo x), Int.add_comm (exo y)]
  case rest => as_aux_lemma =>
    obtain ⟨rfl, X, rfl⟩ := hcut
    clear hw1 hw2 LX LY HS
    go_upto_if 48 with fail
    go_cut [9, 11] (fun s9 s11 wx => s9 = .bool nc ∧ s11 = .bool nd ∧ wx = ((((w.over X1).alloc (woO Nc ec false)).over X2).alloc (woO Nd ed false)).over X)
    case first => as_aux_lemma =>
      obtain ⟨h1, h2, h3, h4, h5, h6⟩ := HC.out
      clear HC HR TW'
      cases s
      · simp only [Bool.false_eq_true, if_false] at h1 h2 h3 h4 h5 h6
        subst h1 h2 h3 h4 h5 h6
        go_wp2_with fail
        go_meet
        exact ⟨rfl, rfl, rfl⟩
      · simp only [if_true] at h1 h2 h3 h4 h5 h6
        subst h1 h2 h3 h4 h5 h6
        go_wp2_with fail
        go_meet
        exact ⟨rfl, rfl, rfl⟩
    case rest => as_aux_lemma =>
      obtain ⟨rfl, rfl, rfl⟩ := hcut
      clear HC
      obtain ⟨_, c0, d0, ord, c1, d1, c2, c3, d2, d3⟩ := TW'.out
      clear TW'
      have hlc : blen Nc ≤ 53 := blen_le_of_lt (n := 53) (by omega)
      have hld : blen Nd ≤ 53 := blen_le_of_lt (n := 53) (by omega)
      have pc := blen_pos c0
      have pd := blen_pos d0
      obtain ⟨k, hk⟩ : ∃ k : Nat, k = 126 - blen Nc := ⟨_, rfl⟩
      obtain ⟨A, hA⟩ : ∃ A, A = Nc * 2^k := ⟨_, rfl⟩
      obtain ⟨e, he⟩ : ∃ e : Int, e = ec - k := ⟨_, rfl⟩
      obtain ⟨B, hB⟩ : ∃ B, B = bAt Nd ed e := ⟨_, rfl⟩
      obtain ⟨m, hm⟩ : ∃ m, m = bMore Nd ed e := ⟨_, rfl⟩
      have hr : sumV nc Nc ec nd Nd ed = ((sumN nc A nd B m).1, (sumN nc A nd B m).2, e, m) := by
        unfold sumV; rw [if_neg d0]; simp only [← hk, ← hA, ← he, ← hB, ← hm]
      have hR := HR.out
      clear HR
      rw [hr] at hR
      simp only at hR
      have HR := Lib.hid hR
      have hAs := size_left c0 (by omega)
      rw [← hk, ← hA] at hAs
      have hBs : B < 85070591730234615865843651857942052864 := by
        rw [hB, he, hk]; exact size_b (by omega) (by omega) d1
      have hBm : m = true → B < 9007199254740992 := by rw [hm, hB]; exact fun h => more_small h d1
      have HBM := Lib.hid hBm
      have hkb : 73 ≤ k ∧ k ≤ 126 := by omega
      have heb : -1200 ≤ e ∧ e ≤ 898 := by omega
      have LA := Lib.hid (rlen_b Nc ec false (by omega))
      have LL := Lib.hid (up_b Nc ec false (126 - (blen Nc : Int)) (by omega) (by rw [show (126 - (blen Nc : Int)).toNat = k by omega, ← hA]; omega) (by omega) (by omega) (by omega))
      have eL : woN (Nc * 2 ^ (126 - (blen Nc : Int)).toNat) (ec - (126 - (blen Nc : Int))) false = woN A e false := by
        rw [show (126 - (blen Nc : Int)).toNat = k by omega, ← hA, show ec - (126 - (blen Nc : Int)) = e by omega]
      rw [eL] at LL
      have hw : IntKind.i64.wrap (126 - (blen Nc : Int)) = 126 - (blen Nc : Int) := IntWalk.i64_in _ (by omega)
      have BL : e ≤ ed → Bl 83 #[woN Nd ed false, .int .i64 (ed - e)] (woN B e m) := by
        intro h
        have hB' : B = Nd * 2^(ed - e).toNat ∧ m = false := by
          by_cases h' : e < ed
          · rw [hB, hm]; unfold bAt bMore; rw [if_pos h', if_pos h']; exact ⟨rfl, rfl⟩
          · rw [hB, hm]; unfold bAt bMore; rw [if_neg h', if_neg h', show (e - ed).toNat = 0 by omega, show (ed - e).toNat = 0 by omega]; simp [Nat.mod_one]
        have hn : ed - e ≤ 127 := by omega
        have := up_b Nd ed false (ed - e) (by omega) (by rw [← hB'.1]; omega) hn (by omega) (by omega)
        rw [← hB'.1, show ed - (ed - e) = e by omega] at this
        rw [hB'.2]; exact this
      have BR : ¬ e ≤ ed → Bl 84 #[woN Nd ed false, .int .i64 (e - ed)] (woN B e m) := by
        intro h
        have hB' : B = Nd / 2^(e - ed).toNat := by rw [hB]; unfold bAt; rw [if_neg (by omega)]
        have hm' : m = decide (Nd % 2^(e - ed).toNat ≠ 0) := by rw [hm]; unfold bMore; rw [if_neg (by omega)]
        have := down_b Nd ed false (e - ed) (by omega) (by omega) (by omega) (by omega)
        rw [← hB', show ed + ((e - ed).toNat : Int) = e by omega, Bool.false_or, ← hm'] at this
        exact this
      have hwb : IntKind.i64.wrap (ed - e) = ed - e := IntWalk.i64_in _ (by omega)
      have hwc : IntKind.i64.wrap (e - ed) = e - ed := IntWalk.i64_in _ (by omega)
      have BL' := Lib.hid BL; have BR' := Lib.hid BR
      clear hr hR hBm hk hA he hB hm eL BL BR
      obtain ⟨hA1, hA2⟩ := hAs
      obtain ⟨e1, e2⟩ := heb
      clear hkb pc pd hlc hld c0 d0 ord c1 d1 c2 c3 d2 d3
      go_wp2_with fail
      go_cut [] (fun wx => ∃ X, wx = ((((w.over X1).alloc (woO A e false)).over X2).alloc (woO Nd ed false)).over X)
      case first => as_aux_lemma =>
        clear BL' BR'
        refine wp_region_lastD1 (List.cons_ne_nil _ _) (by kernel_rfl) (by kernel_rfl) (by kernel_rfl) ?_; simp only [List.dropLast_cons_cons, List.dropLast_singleton, List.getLast_cons_cons, List.getLast_singleton]
        repeat (go_big_quiet_step (first | (with_reducible exact LA.out.quiet _ _) | (with_reducible exact LL.out.quiet _ _)))
        refine wpQuiet_nil ?_; intro _ hw'; obtain ⟨X, hw''⟩ := hw'; subst hw''
        go_wp2_with fail
        go_meet
        exact ⟨_, rfl⟩
      case rest => as_aux_lemma =>
        obtain ⟨X3, rfl⟩ := hcut
        clear hw LA LL
        go_upto_if 62 with fail
        go_cut [] (fun wx => ∃ X, wx = ((((w.over X1).alloc (woO A e false)).over X2).alloc (woO B e m)).over X)
        case first => as_aux_lemma =>
          clear HR HBM hA1 hA2 hBs
          by_cases hgt : e ≤ ed
          · have BL := Lib.hid (BL'.out hgt)
            clear BL' BR'
            go_wp2_with ((with_reducible refine ((BL.out).at _).mono ?_); rintro _ _ ⟨rfl, X, rfl⟩)
            go_meet
            exact ⟨_, rfl⟩
          · have BR := Lib.hid (BR'.out (by omega))
            have hgt' : ed < e := by omega
            clear BL' BR'
            go_wp2_with ((with_reducible refine ((BR.out).at _).mono ?_); rintro _ _ ⟨rfl, X, rfl⟩)
            go_meet
            exact ⟨_, rfl⟩
        case rest => as_aux_lemma =>
          obtain ⟨X4, rfl⟩ := hcut
          clear BL' BR' hwb hwc
          by_cases hsg : nc = nd
          · subst hsg
            have hself : (nc == nc) = true := by simp
            have hR := HR.out
            rw [show sumN nc A nc B m = (nc, A + B) by unfold sumN; rw [if_pos rfl]] at hR
            simp only at hR
            have PB := Lib.hid (plus_b A B e e false m (by omega))
            have TB := Lib.hid (rto_b nc (A + B) e (false || m) down (by omega) (by omega) (by omega) (by omega))
            rw [Bool.false_or, ← hR] at TB
            rw [Bool.false_or] at PB
            clear hR HR HBM hA1 hA2 hBs
            go_wp2_with (first | ((with_reducible refine ((PB.out).at _).mono ?_); rintro _ _ ⟨rfl, X, rfl⟩) | ((with_reducible refine ((TB.out).at _).mono ?_); rintro _ _ ⟨rfl, X, rfl⟩))
            refine bodyPost_ret (v := _) (by simp [results, Try.results64, go_sem] <;> rfl) rfl ⟨rfl, ?_⟩
            repeat (first | exact Below.refl _ _ | refine Below.drew ?_ | refine below_drewN ?_ _ | refine Below.over ?_ (by simp <;> omega) _ | refine Below.alloc ?_ (by simp <;> omega) _ | refine Below.setCell ?_ (by simp <;> omega) _ | refine Below.alloc ?_ (by simp) _ | refine Below.setCell ?_ (by simp) _ | refine Below.over ?_ (by simp) _)
          · have hself : (nc == nd) = false := by simpa using hsg
            have hnd : nd = !nc := by cases nc <;> cases nd <;> simp_all
            subst hnd
            have hne : ¬ nc = !nc := hsg
            cases m
            · have WB := below_b A B e e false false
              by_cases hlt : A < B
              · rw [decide_eq_true hlt] at WB
                have WB := Lib.hid WB
                have hR := HR.out
                rw [show sumN nc A (!nc) B false = (!nc, B - A) by unfold sumN; rw [if_neg hne, if_pos (by simpa using hlt)]; simp] at hR
                simp only at hR
                have MB := Lib.hid (minus_b B A e e false false (by omega) (by omega))
                have TB := Lib.hid (rto_b (!nc) (B - A) e false down (by omega) (by omega) (by omega) (by omega))
                rw [← hR] at TB
                clear hR HR HBM hA1 hA2 hBs hsg hne hlt
                go_wp2_with (first | ((with_reducible refine ((WB.out).at _).mono ?_); rintro _ _ ⟨rfl, X, rfl⟩) | ((with_reducible refine ((MB.out).at _).mono ?_); rintro _ _ ⟨rfl, X, rfl⟩) | ((with_reducible refine ((TB.out).at _).mono ?_); rintro _ _ ⟨rfl, X, rfl⟩))
                refine bodyPost_ret (v := _) (by simp [results, Try.results64, go_sem] <;> rfl) rfl ⟨rfl, ?_⟩
                repeat (first | exact Below.refl _ _ | refine Below.drew ?_ | refine below_drewN ?_ _ | refine Below.over ?_ (by simp <;> omega) _ | refine Below.alloc ?_ (by simp <;> omega) _ | refine Below.setCell ?_ (by simp <;> omega) _ | refine Below.alloc ?_ (by simp) _ | refine Below.setCell ?_ (by simp) _ | refine Below.over ?_ (by simp) _)
              · rw [decide_eq_false hlt] at WB
                have WB := Lib.hid WB
                have hR := HR.out
                rw [show sumN nc A (!nc) B false = (nc, A - B) by unfold sumN; rw [if_neg hne, if_neg (by simpa using hlt)]; simp] at hR
                simp only at hR
                have MB := Lib.hid (minus_b A B e e false false (by omega) (by omega))
                have TB := Lib.hid (rto_b nc (A - B) e false down (by omega) (by omega) (by omega) (by omega))
                rw [← hR] at TB
                clear hR HR HBM hA1 hA2 hBs hsg hne hlt
                go_wp2_with (first | ((with_reducible refine ((WB.out).at _).mono ?_); rintro _ _ ⟨rfl, X, rfl⟩) | ((with_reducible refine ((MB.out).at _).mono ?_); rintro _ _ ⟨rfl, X, rfl⟩) | ((with_reducible refine ((TB.out).at _).mono ?_); rintro _ _ ⟨rfl, X, rfl⟩))
                refine bodyPost_ret (v := _) (by simp [results, Try.results64, go_sem] <;> rfl) rfl ⟨rfl, ?_⟩
                repeat (first | exact Below.refl _ _ | refine Below.drew ?_ | refine below_drewN ?_ _ | refine Below.over ?_ (by simp <;> omega) _ | refine Below.alloc ?_ (by simp <;> omega) _ | refine Below.setCell ?_ (by simp <;> omega) _ | refine Below.alloc ?_ (by simp) _ | refine Below.setCell ?_ (by simp) _ | refine Below.over ?_ (by simp) _)
            · have hB := HBM.out rfl
              have hR := HR.out
              rw [show sumN nc A (!nc) B true = (nc, A - B - 1) by unfold sumN; rw [if_neg hne, if_neg (by simp; omega)]; simp; omega] at hR
              simp only at hR
              have MB := Lib.hid (minus_b A B e e false true (by omega) (by omega))
              have M2 := minus_b (A - B) 1 e 0 false false (by omega) (by omega)
              rw [show woN 1 0 false = .agg #[.int .u64 0, .int .u64 1, .int .i64 0, .bool false] from rfl] at M2
              have M2 := Lib.hid M2
              have TB := Lib.hid (rto_b nc (A - B - 1) e true down (by omega) (by omega) (by omega) (by omega))
              rw [← hR] at TB
              clear hR HR HBM hA1 hA2 hBs hsg hne hB
              have hd : ∀ Y : Ext, w.heap.size + X1.n < w.heap.size + X1.n + 1 + X2.n + 1 + Y.n + 1 := fun Y => by omega
              have hd2 : ∀ Y : Ext, w.heap.size + X1.n < w.heap.size + X1.n + 1 + X2.n + 1 + Y.n := fun Y => by omega
              go_wp2_with (first | ((with_reducible refine ((MB.out).at _).mono ?_); rintro _ _ ⟨rfl, X, rfl⟩) | ((with_reducible refine ((M2.out).at _).mono ?_); rintro _ _ ⟨rfl, X, rfl⟩) | ((with_reducible refine ((TB.out).at _).mono ?_); rintro _ _ ⟨rfl, X, rfl⟩))
              refine bodyPost_ret (v := _) (by simp [results, Try.results64, go_sem] <;> rfl) rfl ⟨rfl, ?_⟩
              repeat (first | exact Below.refl _ _ | refine Below.drew ?_ | refine below_drewN ?_ _ | refine Below.over ?_ (by simp <;> omega) _ | refine Below.alloc ?_ (by simp <;> omega) _ | refine Below.setCell ?_ (by simp <;> omega) _ | refine Below.alloc ?_ (by simp) _ | refine Below.setCell ?_ (by simp) _ | refine Below.over ?_ (by simp) _)

/-- the document's sum of two numbers -/
theorem radd2_b (x y : Nat) (down : Bool) (hx : x < 18446744073709551616) (hy : y < 18446744073709551616) :
    Bl 64 #[.float .f64 x, .float .f64 y, .bool down] (.tuple #[.float .f64 (addR x y down), .int .i64 (addE x y)]) := by
  by_cases fx : fin x
  · have NX : Bl 39 #[.float .f64 x] (.bool true) := by have := rnum_b x; rw [decide_eq_true fx] at this; exact this
    by_cases fy : fin y
    · have NY : Bl 39 #[.float .f64 y] (.bool true) := by have := rnum_b y; rw [decide_eq_true fy] at this; exact this
      have e1 : addR x y down = rndI down (I x + I y) := by unfold addR; rw [if_pos ⟨fx, fy⟩]
      have e2 : addE x y = 0 := by unfold addE; rw [if_pos ⟨fx, fy⟩]
      rw [e1, e2]
      have ey : (FloatKind.f64.format.order y 0 == some .eq) = decide (rg y = 0) := by
        rw [show FloatKind.f64.format = Ieee.double from rfl, eq_num fy.nn (by decide), I_zero]; exact decide_eq_decide.2 I_eq_zero
      have ex : (FloatKind.f64.format.order x 0 == some .eq) = decide (rg x = 0) := by
        rw [show FloatKind.f64.format = Ieee.double from rfl, eq_num fx.nn (by decide), I_zero]; exact decide_eq_decide.2 I_eq_zero
      have NX' := Lib.hid NX; have NY' := Lib.hid NY
      by_cases zy : rg y = 0
      · have hr : rndI down (I x + I y) = pl x := by rw [I_eq_zero.2 zy, Int.add_zero, rndI_self fx hx]
        rw [hr]
        rw [decide_eq_true zy] at ey
        have Z := Lib.hid (rzero_q x fx.nn)
        clear hr zy fx fy hx hy NX NY ex e1 e2
        generalize pl x = p at *
        intro w
        go_enter Try.func64, Try.ntmps64
        go_wp2_with (first | ((with_reducible refine ((NX'.out).at _).mono ?_); rintro _ _ ⟨rfl, X, rfl⟩) | ((with_reducible refine ((NY'.out).at _).mono ?_); rintro _ _ ⟨rfl, X, rfl⟩) | ((with_reducible refine ((Z.out).at _).mono ?_); rintro _ _ ⟨rfl, rfl⟩))
        refine bodyPost_ret (v := _) (by simp [results, Try.results64, go_sem] <;> rfl) rfl ⟨rfl, ?_⟩
        repeat (first | exact Below.refl _ _ | refine Below.drew ?_ | refine below_drewN ?_ _ | refine Below.over ?_ (by simp <;> omega) _ | refine Below.alloc ?_ (by simp <;> omega) _ | refine Below.setCell ?_ (by simp <;> omega) _ | refine Below.alloc ?_ (by simp) _ | refine Below.setCell ?_ (by simp) _ | refine Below.over ?_ (by simp) _)
      · rw [decide_eq_false zy] at ey
        by_cases zx : rg x = 0
        · have hr : rndI down (I x + I y) = y := by
            rw [I_eq_zero.2 zx, Int.zero_add, rndI_self fy hy]; unfold pl; rw [if_neg zy]
          rw [hr]
          rw [decide_eq_true zx] at ex
          clear hr zy fx fy hx hy NX NY e1 e2
          intro w
          go_enter Try.func64, Try.ntmps64
          go_wp2_with (first | ((with_reducible refine ((NX'.out).at _).mono ?_); rintro _ _ ⟨rfl, X, rfl⟩) | ((with_reducible refine ((NY'.out).at _).mono ?_); rintro _ _ ⟨rfl, X, rfl⟩))
          refine bodyPost_ret (v := _) (by simp [results, Try.results64, go_sem] <;> rfl) rfl ⟨rfl, ?_⟩
          repeat (first | exact Below.refl _ _ | refine Below.drew ?_ | refine below_drewN ?_ _ | refine Below.over ?_ (by simp <;> omega) _ | refine Below.alloc ?_ (by simp <;> omega) _ | refine Below.setCell ?_ (by simp <;> omega) _ | refine Below.alloc ?_ (by simp) _ | refine Below.setCell ?_ (by simp) _ | refine Below.over ?_ (by simp) _)
        · exact radd2_main x y down hx hy fx fy zx zy
    · have NY : Bl 39 #[.float .f64 y] (.bool false) := by have := rnum_b y; rw [decide_eq_false fy] at this; exact this
      have e1 : addR x y down = 0 := by unfold addR; rw [if_neg (fun h => fy h.2)]
      have e2 : addE x y = 10 := by unfold addE; rw [if_neg (fun h => fy h.2)]
      rw [e1, e2]
      have NX' := Lib.hid NX; have NY' := Lib.hid NY
      clear fx fy hx hy NX NY e1 e2
      intro w
      go_enter Try.func64, Try.ntmps64
      go_wp2_with (first | ((with_reducible refine ((NX'.out).at _).mono ?_); rintro _ _ ⟨rfl, X, rfl⟩) | ((with_reducible refine ((NY'.out).at _).mono ?_); rintro _ _ ⟨rfl, X, rfl⟩))
      refine bodyPost_ret (v := _) (by simp [results, Try.results64, go_sem] <;> rfl) rfl ⟨rfl, ?_⟩
      repeat (first | exact Below.refl _ _ | refine Below.drew ?_ | refine below_drewN ?_ _ | refine Below.over ?_ (by simp <;> omega) _ | refine Below.alloc ?_ (by simp <;> omega) _ | refine Below.setCell ?_ (by simp <;> omega) _ | refine Below.alloc ?_ (by simp) _ | refine Below.setCell ?_ (by simp) _ | refine Below.over ?_ (by simp) _)
  · have NX : Bl 39 #[.float .f64 x] (.bool false) := by have := rnum_b x; rw [decide_eq_false fx] at this; exact this
    have NY := rnum_b y
    have e1 : addR x y down = 0 := by unfold addR; rw [if_neg (fun h => fx h.1)]
    have e2 : addE x y = 10 := by unfold addE; rw [if_neg (fun h => fx h.1)]
    rw [e1, e2]
    have NX' := Lib.hid NX; have NY' := Lib.hid NY
    clear fx hx hy NX NY e1 e2
    intro w
    go_enter Try.func64, Try.ntmps64
    go_wp2_with (first | ((with_reducible refine ((NX'.out).at _).mono ?_); rintro _ _ ⟨rfl, X, rfl⟩) | ((with_reducible refine ((NY'.out).at _).mono ?_); rintro _ _ ⟨rfl, X, rfl⟩))
    refine bodyPost_ret (v := _) (by simp [results, Try.results64, go_sem] <;> rfl) rfl ⟨rfl, ?_⟩
    repeat (first | exact Below.refl _ _ | refine Below.drew ?_ | refine below_drewN ?_ _ | refine Below.over ?_ (by simp <;> omega) _ | refine Below.alloc ?_ (by simp <;> omega) _ | refine Below.setCell ?_ (by simp <;> omega) _ | refine Below.alloc ?_ (by simp) _ | refine Below.setCell ?_ (by simp) _ | refine Below.over ?_ (by simp) _)
end Go.Proofs.Ytknijppdnfcknaa
