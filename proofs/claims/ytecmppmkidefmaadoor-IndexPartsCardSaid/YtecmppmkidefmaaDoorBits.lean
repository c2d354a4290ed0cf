/-
  Plain facts on the bits of 64-bit words at the sign bit, and of bytes put together. No program here.
-/
import Derived.Laws.BitsLemmas
import Derived.Laws.BitsAll
namespace Go.Proofs.YtecmppmkidefmaaDoor

theorem wraps_u64 (n : Int) (h₀ : 0 ≤ n) (h₁ : n < 2 ^ 64) : IntKind.u64.wrap n = n := by
  have e : (2 : Int) ^ 64 = 18446744073709551616 := by decide
  rw [e] at h₁
  simp [IntKind.wrap, IntKind.bits, IntKind.signed]; omega

theorem and_sign_nat (u : Nat) (h : u < 18446744073709551616) : u &&& 9223372036854775808 = if 9223372036854775808 ≤ u then 9223372036854775808 else 0 := by
  have e : (9223372036854775808 : Nat) = 2 ^ 63 := by decide
  have h1 : (u &&& 9223372036854775808) / 2 ^ 63 = u / 2 ^ 63 &&& 1 := by rw [Nat.and_div_two_pow]
  have h2 : (u &&& 9223372036854775808) % 2 ^ 63 = 0 := by rw [Nat.and_mod_two_pow, e, Nat.mod_self, Nat.and_zero]
  rw [← e] at h1 h2
  by_cases k : 9223372036854775808 ≤ u
  · have hq : u / 9223372036854775808 = 1 := by omega
    rw [if_pos k]
    rw [hq] at h1
    have : (1 &&& 1 : Nat) = 1 := by decide
    omega
  · have hq : u / 9223372036854775808 = 0 := by omega
    rw [if_neg k]
    rw [hq] at h1
    have : (0 &&& 1 : Nat) = 0 := by decide
    omega

theorem or_sign_nat (u : Nat) (h : u < 18446744073709551616) : u ||| 9223372036854775808 = if 9223372036854775808 ≤ u then u else u + 9223372036854775808 := by
  have e : (9223372036854775808 : Nat) = 2 ^ 63 := by decide
  have h1 : (u ||| 9223372036854775808) / 2 ^ 63 = u / 2 ^ 63 ||| 1 := by rw [Nat.or_div_two_pow]
  have h2 : (u ||| 9223372036854775808) % 2 ^ 63 = u % 2 ^ 63 := by rw [Nat.or_mod_two_pow, e, Nat.mod_self, Nat.or_zero]
  rw [← e] at h1 h2
  by_cases k : 9223372036854775808 ≤ u
  · have hq : u / 9223372036854775808 = 1 := by omega
    rw [if_pos k]
    rw [hq] at h1
    have : (1 ||| 1 : Nat) = 1 := by decide
    omega
  · have hq : u / 9223372036854775808 = 0 := by omega
    rw [if_neg k]
    rw [hq] at h1
    have : (0 ||| 1 : Nat) = 1 := by decide
    omega

theorem xor_sign_nat (u : Nat) (h : u < 18446744073709551616) : u ^^^ 9223372036854775808 = if 9223372036854775808 ≤ u then u - 9223372036854775808 else u + 9223372036854775808 := by
  have e : (9223372036854775808 : Nat) = 2 ^ 63 := by decide
  have h1 : (u ^^^ 9223372036854775808) / 2 ^ 63 = u / 2 ^ 63 ^^^ 1 := by rw [Nat.xor_div_two_pow]
  have h2 : (u ^^^ 9223372036854775808) % 2 ^ 63 = u % 2 ^ 63 := by rw [Nat.xor_mod_two_pow, e, Nat.mod_self, Nat.xor_zero]
  rw [← e] at h1 h2
  by_cases k : 9223372036854775808 ≤ u
  · have hq : u / 9223372036854775808 = 1 := by omega
    rw [if_pos k]
    rw [hq] at h1
    have : (1 ^^^ 1 : Nat) = 0 := by decide
    omega
  · have hq : u / 9223372036854775808 = 0 := by omega
    rw [if_neg k]
    rw [hq] at h1
    have : (0 ^^^ 1 : Nat) = 1 := by decide
    omega

theorem xor_ones_nat (u : Nat) (h : u < 18446744073709551616) : 18446744073709551615 ^^^ u = 18446744073709551615 - u := by
  have e : (18446744073709551615 : Nat) = (BitVec.allOnes 64).toNat := by decide
  have hu : (BitVec.ofNat 64 u).toNat = u := by rw [BitVec.toNat_ofNat]; exact Nat.mod_eq_of_lt h
  have h1 : (BitVec.allOnes 64 ^^^ BitVec.ofNat 64 u).toNat = 18446744073709551615 ^^^ u := by rw [BitVec.toNat_xor, hu, ← e]
  rw [← h1, BitVec.allOnes_xor, BitVec.toNat_not, hu]

theorem bits_u64 (u v : Nat) (hu : u < 18446744073709551616) (hv : v < 18446744073709551616) :
    bits .and .u64 u v = ((u &&& v : Nat) : Int) ∧ bits .or .u64 u v = ((u ||| v : Nat) : Int) ∧ bits .xor .u64 u v = ((u ^^^ v : Nat) : Int) := by
  have e : (18446744073709551616 : Nat) = 2 ^ 64 := by decide
  rw [e] at hu hv
  have a := bits_nat .u64 64 (by decide) wraps_u64 u v hu hv
  refine ⟨a.1, a.2, ?_⟩
  have hu' : u % 2 ^ 64 = u := Nat.mod_eq_of_lt hu
  have hv' : v % 2 ^ 64 = v := Nat.mod_eq_of_lt hv
  show IntKind.u64.wrap ((BitVec.ofInt 64 (u : Int) ^^^ BitVec.ofInt 64 (v : Int)).toNat : Int) = _
  simp only [BitVec.ofInt_natCast, BitVec.toNat_xor, BitVec.toNat_ofNat, hu', hv']
  exact wraps_u64 _ (Int.natCast_nonneg _) (by exact_mod_cast Nat.xor_lt_two_pow hu hv)

theorem bits_and_sign (u : Nat) (h : u < 18446744073709551616) : (bits .and .u64 u 9223372036854775808 != 0) = decide (9223372036854775808 ≤ u) := by
  have := (bits_u64 u 9223372036854775808 h (by decide)).1
  rw [show ((9223372036854775808 : Nat) : Int) = (9223372036854775808 : Int) from rfl] at this
  rw [this, and_sign_nat u h]
  by_cases k : 9223372036854775808 ≤ u
  · rw [if_pos k, decide_eq_true k]; rfl
  · rw [if_neg k, decide_eq_false k]; rfl

theorem bits_or_sign (u : Nat) (h : u < 9223372036854775808) : bits .or .u64 u 9223372036854775808 = ((u + 9223372036854775808 : Nat) : Int) := by
  have := (bits_u64 u 9223372036854775808 (by omega) (by decide)).2.1
  rw [show ((9223372036854775808 : Nat) : Int) = (9223372036854775808 : Int) from rfl] at this
  rw [this, or_sign_nat u (by omega), if_neg (by omega)]

theorem bits_xor_sign (u : Nat) (h : u < 18446744073709551616) : bits .xor .u64 u 9223372036854775808 = ((if 9223372036854775808 ≤ u then u - 9223372036854775808 else u + 9223372036854775808 : Nat) : Int) := by
  have := (bits_u64 u 9223372036854775808 h (by decide)).2.2
  rw [show ((9223372036854775808 : Nat) : Int) = (9223372036854775808 : Int) from rfl] at this
  rw [this, xor_sign_nat u h]

theorem bits_xor_ones (u : Nat) (h : u < 18446744073709551616) : bits .xor .u64 IntKind.u64.max u = ((18446744073709551615 - u : Nat) : Int) := by
  have := (bits_u64 18446744073709551615 u (by decide) h).2.2
  rw [show ((18446744073709551615 : Nat) : Int) = IntKind.u64.max from rfl] at this
  rw [this, xor_ones_nat u h]

theorem bits_andNot_sign (u : Nat) (h : u < 18446744073709551616) (k : 9223372036854775808 ≤ u) : bits .andNot .u64 u 9223372036854775808 = ((u - 9223372036854775808 : Nat) : Int) := by
  have hu' : u % 2 ^ 64 = u := Nat.mod_eq_of_lt h
  have e : BitVec.ofInt 64 (9223372036854775808 : Int) = 9223372036854775808#64 := by decide
  have e2 : ~~~ (9223372036854775808#64) = 9223372036854775807#64 := by decide
  show IntKind.u64.wrap ((BitVec.ofInt 64 (u : Int) &&& ~~~ BitVec.ofInt 64 (9223372036854775808 : Int)).toNat : Int) = _
  rw [e, e2]
  simp only [BitVec.ofInt_natCast, BitVec.toNat_and, BitVec.toNat_ofNat, hu']
  have e3 : 9223372036854775807 % 2 ^ 64 = 2 ^ 63 - 1 := by decide
  rw [e3, Nat.and_two_pow_sub_one_eq_mod]
  have e4 : (2 : Nat) ^ 63 = 9223372036854775808 := by decide
  rw [e4, wraps_u64 _ (Int.natCast_nonneg _) (by omega)]
  omega

/-- A byte put behind a word. -/
theorem bits_or_byte (u b : Nat) (hu : u < 72057594037927936) (hb : b < 256) : bits .or .u64 (u * 256 : Nat) b = ((u * 256 + b : Nat) : Int) := by
  have := bits_join .u64 64 (by decide) wraps_u64 8 (u * 256 : Nat) b (by omega) (by omega) (by omega) (by omega) (by omega) (by omega)
  rw [this]; omega

end Go.Proofs.YtecmppmkidefmaaDoor
