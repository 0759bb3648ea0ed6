/- The walks of the document's answer for layer 1: words, their length, places. -/
import Derived.Test.YtknijppdnfcknaaXa
namespace Go.Proofs.Ytknijppdnfcknaa
open Go.RowKit FF

/-- lanternref01.Word as a value -/
abbrev woN (N : Nat) (e : Int) (more : Bool) : Value := .agg #[.int .u64 (hiW N), .int .u64 (loW N), .int .i64 e, .bool more]
abbrev woO (N : Nat) (e : Int) (more : Bool) : Obj := .cells #[.int .u64 (hiW N), .int .u64 (loW N), .int .i64 e, .bool more] 129
theorem woN_mk {N : Nat} {hi lo e e' : Int} {more more' : Bool} (h0 : 0 ≤ lo) (hl : lo < 18446744073709551616) (h2 : (N : Int) = hi * 18446744073709551616 + lo) (h3 : e' = e) (h4 : more' = more) :
    Value.agg #[.int .u64 hi, .int .u64 lo, .int .i64 e', .bool more'] = woN N e more := by
  obtain ⟨a, b⟩ := hiW_of h0 hl h2
  unfold woN
  rw [a, b, h3, h4]
theorem ret_tup {a b : Value} {c d : Value} (h1 : a = c) (h2 : b = d) : Ending.returned (.tuple #[a, b]) = .returned (.tuple #[c, d]) := by rw [h1, h2]

attribute [local go_sem] bits_and52 bits_and11 wrap64_2048 bits_or52 wrap64_2048s in
set_option maxRecDepth 100000 in
theorem part_b (x : Nat) (h : x < 18446744073709551616) : Bl 81 #[.float .f64 x] (.tuple #[woN (mnt x) (exo x) false, .bool (ng x)]) := by
  intro w
  go_enter Try.func81, Try.ntmps81
  go_wp2
  all_goals refine bodyPost_ret (v := _) (by simp [results, Try.results81, go_sem]; rfl) rfl ⟨?_, ?_⟩
  · have h1 : 0 < (x : Int) / 4503599627370496 % 2048 := by assumption
    have h2 : ¬ x / 4503599627370496 % 2048 = 0 := by omega
    refine ret_tup (woN_mk (hi := 0) ?_ ?_ ?_ ?_ rfl) (congrArg Value.bool ?_)
    · omega
    · omega
    · unfold mnt; rw [if_neg h2]; omega
    · unfold exo; rw [if_neg h2]; omega
    · unfold ng; rw [Bool.eq_iff_iff]; simp; omega
  · repeat (first | exact Below.refl _ _ | refine Below.drew ?_ | refine below_drewN ?_ _ | refine Below.over ?_ (by simp <;> omega) _ | refine Below.alloc ?_ (by simp <;> omega) _ | refine Below.setCell ?_ (by simp <;> omega) _ | refine Below.alloc ?_ (by simp) _ | refine Below.setCell ?_ (by simp) _ | refine Below.over ?_ (by simp) _)
  · have h1 : (x : Int) / 4503599627370496 % 2048 ≤ 0 := by assumption
    have h2 : x / 4503599627370496 % 2048 = 0 := by omega
    refine ret_tup (woN_mk (hi := 0) ?_ ?_ ?_ ?_ rfl) (congrArg Value.bool ?_)
    · omega
    · omega
    · unfold mnt; rw [if_pos h2]; omega
    · unfold exo; rw [if_pos h2]
    · unfold ng; rw [Bool.eq_iff_iff]; simp; omega
  · repeat (first | exact Below.refl _ _ | refine Below.drew ?_ | refine below_drewN ?_ _ | refine Below.over ?_ (by simp <;> omega) _ | refine Below.alloc ?_ (by simp <;> omega) _ | refine Below.setCell ?_ (by simp <;> omega) _ | refine Below.alloc ?_ (by simp) _ | refine Below.setCell ?_ (by simp) _ | refine Below.over ?_ (by simp) _)
theorem blen_shift {b S : Nat} (h : b / 2^S ≠ 0) : blen b = S + blen (b / 2^S) := by
  have p1 := Nat.two_pow_pos S
  have a := blen_le h
  have c := blen_lt (b / 2^S)
  have p := blen_pos h
  obtain ⟨l, hl⟩ : ∃ l, blen (b / 2^S) = l + 1 := ⟨blen (b / 2^S) - 1, by omega⟩
  rw [hl] at a c ⊢
  rw [blen_eq (n := S + l)]
  · omega
  · rw [Nat.pow_add, Nat.mul_comm]; exact (Nat.le_div_iff_mul_le p1).1 a
  · rw [show S + l + 1 = (l + 1) + S by omega, Nat.pow_add]; exact (Nat.div_lt_iff_lt_mul p1).1 c
/-- what holds at the head of Length's loop -/
def LenRel (tot : Nat) (n x s : Value) : Prop :=
  ∃ a b : Nat, n = .int .i64 a ∧ x = .int .u64 b ∧ a + blen b = tot ∧ a ≤ 128 ∧
    ((s = .int .i64 32 ∧ b < 18446744073709551616) ∨ (s = .int .i64 16 ∧ b < 4294967296) ∨ (s = .int .i64 8 ∧ b < 65536) ∨ (s = .int .i64 4 ∧ b < 256) ∨ (s = .int .i64 2 ∧ b < 16) ∨ (s = .int .i64 1 ∧ b < 4) ∨ (s = .int .i64 0 ∧ b < 2))
theorem len_yes {tot a b S : Nat} (h1 : a + blen b = tot) (h : b / 2^S ≠ 0) : a + S + blen (b / 2^S) = tot := by
  have := blen_shift h; omega
theorem blen_bit {b : Nat} (h : b < 2) : blen b = b := by
  have : b = 0 ∨ b = 1 := by omega
  rcases this with rfl | rfl <;> decide
set_option maxRecDepth 100000 in
set_option maxHeartbeats 2000000 in
theorem rlen_b (N : Nat) (e : Int) (more : Bool) (hN : N < 340282366920938463463374607431768211456) : Bl 82 #[woN N e more] (.int .i64 (blen N)) := by
  intro w
  obtain ⟨hi, hhi⟩ : ∃ hi : Nat, hi = N / 18446744073709551616 := ⟨_, rfl⟩
  obtain ⟨lo, hlo⟩ : ∃ lo : Nat, lo = N % 18446744073709551616 := ⟨_, rfl⟩
  have hz : (hi ≠ 0 → blen N = 64 + blen hi) ∧ (hi = 0 → blen N = blen lo) :=
    ⟨fun h => blen_hi N _ hhi.symm h, fun h => by rw [hlo, Nat.mod_eq_of_lt (by omega)]⟩
  have hh : hi < 18446744073709551616 := by omega
  have hl : lo < 18446744073709551616 := by omega
  have hb : blen N ≤ 128 := blen_le_of_lt (n := 128) hN
  have HZ := Lib.hid hz; clear hz hN
  unfold woN hiW loW
  rw [← hhi, ← hlo]
  clear hhi hlo
  go_enter Try.func82, Try.ntmps82
  go_wp2
  all_goals
    go_loop [3, 4, 5] (fun n x s => LenRel (blen N) n x s) (fun _ _ s => (intOf s).toNat)
    case atStart =>
      first
        | (have h1 : ((hi : Int) != 0) = true := by assumption
           exact ⟨64, hi, rfl, rfl, by have := HZ.out.1 (by simpa using h1); omega, by omega, .inl ⟨rfl, hh⟩⟩)
        | (have h1 : ((hi : Int) != 0) = false := by assumption
           exact ⟨0, lo, rfl, rfl, by have := HZ.out.2 (by simpa using h1); omega, by omega, .inl ⟨rfl, hl⟩⟩)
    case round =>
      obtain ⟨a, b, rfl, rfl, htot, ha, hs⟩ := hrel
      have HT := Lib.hid htot; clear htot
      have hab : a + blen b ≤ 128 := by rw [HT.out]; exact hb
      clear HZ
      rcases hs with ⟨rfl, hbl⟩ | ⟨rfl, hbl⟩ | ⟨rfl, hbl⟩ | ⟨rfl, hbl⟩ | ⟨rfl, hbl⟩ | ⟨rfl, hbl⟩ | ⟨rfl, hbl⟩
      · go_wp2
        · have h1 : ((b : Int) / 4294967296 != 0) = true := by assumption
          have h2 : b / 2^32 ≠ 0 := by have := bne_iff_ne.1 h1; omega
          have h3 := len_yes (S := 32) HT.out h2
          exact ⟨⟨a + 32, b / 4294967296, by simp, by simp, h3, by omega, .inr (.inl ⟨rfl, by omega⟩)⟩, by decide⟩
        · have h1 : ((b : Int) / 4294967296 != 0) = false := by assumption
          have h2 : b < 4294967296 := by
            have h2 : (b : Int) / 4294967296 = 0 := by simpa using h1
            omega
          exact ⟨⟨a, b, rfl, rfl, HT.out, ha, .inr (.inl ⟨rfl, by omega⟩)⟩, by decide⟩
      · go_wp2
        · have h1 : ((b : Int) / 65536 != 0) = true := by assumption
          have h2 : b / 2^16 ≠ 0 := by have := bne_iff_ne.1 h1; omega
          have h3 := len_yes (S := 16) HT.out h2
          exact ⟨⟨a + 16, b / 65536, by simp, by simp, h3, by omega, .inr (.inr (.inl ⟨rfl, by omega⟩))⟩, by decide⟩
        · have h1 : ((b : Int) / 65536 != 0) = false := by assumption
          have h2 : b < 65536 := by
            have h2 : (b : Int) / 65536 = 0 := by simpa using h1
            omega
          exact ⟨⟨a, b, rfl, rfl, HT.out, ha, .inr (.inr (.inl ⟨rfl, by omega⟩))⟩, by decide⟩
      · go_wp2
        · have h1 : ((b : Int) / 256 != 0) = true := by assumption
          have h2 : b / 2^8 ≠ 0 := by have := bne_iff_ne.1 h1; omega
          have h3 := len_yes (S := 8) HT.out h2
          exact ⟨⟨a + 8, b / 256, by simp, by simp, h3, by omega, .inr (.inr (.inr (.inl ⟨rfl, by omega⟩)))⟩, by decide⟩
        · have h1 : ((b : Int) / 256 != 0) = false := by assumption
          have h2 : b < 256 := by
            have h2 : (b : Int) / 256 = 0 := by simpa using h1
            omega
          exact ⟨⟨a, b, rfl, rfl, HT.out, ha, .inr (.inr (.inr (.inl ⟨rfl, by omega⟩)))⟩, by decide⟩
      · go_wp2
        · have h1 : ((b : Int) / 16 != 0) = true := by assumption
          have h2 : b / 2^4 ≠ 0 := by have := bne_iff_ne.1 h1; omega
          have h3 := len_yes (S := 4) HT.out h2
          exact ⟨⟨a + 4, b / 16, by simp, by simp, h3, by omega, .inr (.inr (.inr (.inr (.inl ⟨rfl, by omega⟩))))⟩, by decide⟩
        · have h1 : ((b : Int) / 16 != 0) = false := by assumption
          have h2 : b < 16 := by
            have h2 : (b : Int) / 16 = 0 := by simpa using h1
            omega
          exact ⟨⟨a, b, rfl, rfl, HT.out, ha, .inr (.inr (.inr (.inr (.inl ⟨rfl, by omega⟩))))⟩, by decide⟩
      · go_wp2
        · have h1 : ((b : Int) / 4 != 0) = true := by assumption
          have h2 : b / 2^2 ≠ 0 := by have := bne_iff_ne.1 h1; omega
          have h3 := len_yes (S := 2) HT.out h2
          exact ⟨⟨a + 2, b / 4, by simp, by simp, h3, by omega, .inr (.inr (.inr (.inr (.inr (.inl ⟨rfl, by omega⟩)))))⟩, by decide⟩
        · have h1 : ((b : Int) / 4 != 0) = false := by assumption
          have h2 : b < 4 := by
            have h2 : (b : Int) / 4 = 0 := by simpa using h1
            omega
          exact ⟨⟨a, b, rfl, rfl, HT.out, ha, .inr (.inr (.inr (.inr (.inr (.inl ⟨rfl, by omega⟩)))))⟩, by decide⟩
      · go_wp2
        · have h1 : ((b : Int) / 2 != 0) = true := by assumption
          have h2 : b / 2^1 ≠ 0 := by have := bne_iff_ne.1 h1; omega
          have h3 := len_yes (S := 1) HT.out h2
          exact ⟨⟨a + 1, b / 2, by simp, by simp, h3, by omega, .inr (.inr (.inr (.inr (.inr (.inr ⟨rfl, by omega⟩)))))⟩, by decide⟩
        · have h1 : ((b : Int) / 2 != 0) = false := by assumption
          have h2 : b < 2 := by
            have h2 : (b : Int) / 2 = 0 := by simpa using h1
            omega
          exact ⟨⟨a, b, rfl, rfl, HT.out, ha, .inr (.inr (.inr (.inr (.inr (.inr ⟨rfl, by omega⟩)))))⟩, by decide⟩
      · go_wp2
        go_ret
        refine ⟨ret_int ?_, ?_⟩
        · have := blen_bit hbl
          have := HT.out
          omega
        · repeat (first | exact Below.refl _ _ | refine Below.drew ?_ | refine below_drewN ?_ _ | refine Below.over ?_ (by simp <;> omega) _ | refine Below.alloc ?_ (by simp <;> omega) _ | refine Below.setCell ?_ (by simp <;> omega) _ | refine Below.alloc ?_ (by simp) _ | refine Below.setCell ?_ (by simp) _ | refine Below.over ?_ (by simp) _)
end Go.Proofs.Ytknijppdnfcknaa
