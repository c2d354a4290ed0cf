/-
  Plain facts on float64 words: the order that Ieee gives, the canonical words, and the words in whose order they stand. No program here.
-/
import GoSem.Core.Float
namespace Go.Proofs.YtecmppmkidefmaaDoor

/-- Is a word no number's? -/
def nanF (f : Nat) : Bool := FloatKind.f64.format.order f f != some .eq
/-- The canonical word. -/
def canonF (f : Nat) : Nat := if nanF f then 9221120237041090560 else if FloatKind.f64.format.order f 0 == some .eq then 0 else f
def isF (f : Nat) : Bool := f == canonF f
/-- The word in whose order the numbers stand. -/
def bitsF (f : Nat) : Nat := if 9223372036854775808 ≤ canonF f then 18446744073709551615 - canonF f else canonF f + 9223372036854775808
def unbitsF (u : Nat) : Nat := if 9223372036854775808 ≤ u then u - 9223372036854775808 else 18446744073709551615 - u
def fromF (u : Nat) : Option Nat := if isF (unbitsF u) then some (unbitsF u) else none
def rankF (f : Nat) : Int := if nanF f then 1 else 0
def cmpF (f g : Nat) : Int := if rankF f ≠ rankF g then rankF f - rankF g else if rankF f = 1 then 0 else if FloatKind.f64.format.order f g == some .lt then -1 else if FloatKind.f64.format.order f g == some .gt then 1 else 0

namespace FloatW
open Ieee

def mag (r : Nat) : Nat := if r < 4503599627370496 then r else (4503599627370496 + r % 4503599627370496) * 2 ^ (r / 4503599627370496 - 1)

theorem mag_succ (r : Nat) : mag r < mag (r + 1) := by
  unfold mag
  by_cases h1 : r + 1 < 4503599627370496
  · rw [if_pos (by omega), if_pos h1]; omega
  · by_cases h2 : r < 4503599627370496
    · rw [if_pos h2, if_neg h1]
      have e1 : (r + 1) / 4503599627370496 = 1 := by omega
      rw [e1]; simp; omega
    · rw [if_neg h2, if_neg h1]
      by_cases h3 : (r + 1) % 4503599627370496 = 0
      · have e1 : (r + 1) / 4503599627370496 - 1 = (r / 4503599627370496 - 1) + 1 := by omega
        rw [e1, h3, Nat.pow_succ, Nat.add_zero, Nat.mul_comm (2 ^ _) 2, ← Nat.mul_assoc]
        exact Nat.mul_lt_mul_of_pos_right (by omega) (Nat.two_pow_pos _)
      · have e1 : (r + 1) / 4503599627370496 = r / 4503599627370496 := by omega
        rw [e1]
        exact Nat.mul_lt_mul_of_pos_right (by omega) (Nat.two_pow_pos _)

theorem mag_lt {r s : Nat} (h : r < s) : mag r < mag s := by
  induction s with
  | zero => omega
  | succ s ih =>
    by_cases e : r = s
    · subst e; exact mag_succ r
    · exact Nat.lt_trans (ih (by omega)) (mag_succ s)

theorem mag_zero : mag 0 = 0 := by simp [mag]

theorem mag_le {r s : Nat} (h : r ≤ s) : mag r ≤ mag s := by
  by_cases e : r = s
  · subst e; exact Nat.le_refl _
  · exact Nat.le_of_lt (mag_lt (by omega))

theorem compare_mul (a b c : Int) (h : 0 < c) : compare (a * c) (b * c) = compare a b := by
  rcases Int.lt_trichotomy a b with h1 | h1 | h1
  · have h2 : a * c < b * c := Int.mul_lt_mul_of_pos_right h1 h
    rw [Int.compare_eq_lt.2 h1, Int.compare_eq_lt.2 h2]
  · subst h1; rw [Int.compare_eq_eq.2 rfl, Int.compare_eq_eq.2 rfl]
  · have h2 : b * c < a * c := Int.mul_lt_mul_of_pos_right h1 h
    rw [Int.compare_eq_gt.2 h1, Int.compare_eq_gt.2 h2]

theorem signed_shift (s : Bool) (m a b : Nat) : signed s m (a + b) = signed s m a * (2 ^ b : Nat) := by
  unfold signed
  rw [Nat.shiftLeft_add, Nat.shiftLeft_eq (m <<< a) b]
  split
  · rw [Int.natCast_mul, Int.neg_mul]
  · rw [Int.natCast_mul]

theorem order_numbers (s t : Bool) (m n : Nat) (i j l : Int) (hi : l ≤ i) (hj : l ≤ j) :
    (Datum.number s m i).order (Datum.number t n j) = some (compare (signed s m (i - l).toNat) (signed t n (j - l).toNat)) := by
  show some (compare (signed s m (i - min i j).toNat) (signed t n (j - min i j).toNat)) = _
  obtain ⟨b, hb⟩ : ∃ b : Int, min i j = b := ⟨_, rfl⟩
  rw [hb]
  have h1 : (i - l).toNat = (i - b).toNat + (b - l).toNat := by omega
  have h2 : (j - l).toNat = (j - b).toNat + (b - l).toNat := by omega
  rw [h1, h2, signed_shift, signed_shift, compare_mul _ _ _ (Int.natCast_pos.2 (Nat.two_pow_pos _))]

/-- Above or below nought, so many steps. -/
def sr (f : Nat) : Int := if f / 9223372036854775808 % 2 == 1 then -((f % 9223372036854775808 : Nat) : Int) else ((f % 9223372036854775808 : Nat) : Int)

theorem signed_mag_lt (s t : Bool) (r q : Nat) : compare (signed s (mag r) 0) (signed t (mag q) 0) = compare (signed s r 0) (signed t q 0) := by
  have hr := mag_le (Nat.zero_le r)
  have hq := mag_le (Nat.zero_le q)
  rw [mag_zero] at hr hq
  have h0 : ∀ x, mag x = 0 → x = 0 := fun x h => by
    by_cases e : x = 0
    · exact e
    · have := mag_lt (r := 0) (s := x) (by omega); rw [mag_zero] at this; omega
  have hz : ∀ x, x = 0 → mag x = 0 := fun x h => by subst h; exact mag_zero
  have hp : ∀ x, 0 < x → 0 < mag x := fun x h => by have := mag_lt h; rw [mag_zero] at this; exact this
  rcases Nat.lt_trichotomy r q with h | h | h
  · have := mag_lt h
    have h4 := hp q (by omega)
    cases s <;> cases t <;> simp only [signed, Nat.shiftLeft_zero, if_true, Bool.false_eq_true, if_false]
    · rw [Int.compare_eq_lt.2 (by omega), Int.compare_eq_lt.2 (by omega)]
    · rw [Int.compare_eq_gt.2 (by omega), Int.compare_eq_gt.2 (by omega)]
    · rw [Int.compare_eq_lt.2 (by omega), Int.compare_eq_lt.2 (by omega)]
    · rw [Int.compare_eq_gt.2 (by omega), Int.compare_eq_gt.2 (by omega)]
  · subst h
    by_cases e : r = 0
    · subst e; rw [mag_zero]
    · have h4 := hp r (by omega)
      cases s <;> cases t <;> simp only [signed, Nat.shiftLeft_zero, if_true, Bool.false_eq_true, if_false]
      · rw [Int.compare_eq_eq.2 rfl, Int.compare_eq_eq.2 rfl]
      · rw [Int.compare_eq_gt.2 (by omega), Int.compare_eq_gt.2 (by omega)]
      · rw [Int.compare_eq_lt.2 (by omega), Int.compare_eq_lt.2 (by omega)]
      · rw [Int.compare_eq_eq.2 rfl, Int.compare_eq_eq.2 rfl]
  · have := mag_lt h
    have h4 := hp r (by omega)
    cases s <;> cases t <;> simp only [signed, Nat.shiftLeft_zero, if_true, Bool.false_eq_true, if_false]
    · rw [Int.compare_eq_gt.2 (by omega), Int.compare_eq_gt.2 (by omega)]
    · rw [Int.compare_eq_gt.2 (by omega), Int.compare_eq_gt.2 (by omega)]
    · rw [Int.compare_eq_lt.2 (by omega), Int.compare_eq_lt.2 (by omega)]
    · rw [Int.compare_eq_lt.2 (by omega), Int.compare_eq_lt.2 (by omega)]

theorem fmt_sign : FloatKind.f64.format.signWeight = 9223372036854775808 := by decide
theorem fmt_bin : FloatKind.f64.format.binade = 4503599627370496 := by decide
theorem fmt_inf : FloatKind.f64.format.infRung = 9218868437227405312 := by decide
theorem fmt_least : FloatKind.f64.format.leastPlace = -1074 := by decide

theorem read_eq (f : Nat) : FloatKind.f64.format.read f =
    if f % 9223372036854775808 < 4503599627370496 then .number (f / 9223372036854775808 % 2 == 1) (f % 9223372036854775808) (-1074)
    else if f % 9223372036854775808 < 9218868437227405312 then
      .number (f / 9223372036854775808 % 2 == 1) (4503599627370496 + f % 9223372036854775808 % 4503599627370496) (-1074 + ((f % 9223372036854775808) / 4503599627370496 - 1 : Nat))
    else if f % 9223372036854775808 = 9218868437227405312 then .infinity (f / 9223372036854775808 % 2 == 1)
    else .nan (f / 9223372036854775808 % 2 == 1) (f % 9223372036854775808 - 9218868437227405312) := by
  unfold Format.read
  rw [fmt_sign, fmt_bin, fmt_inf, fmt_least]

theorem read_num (f : Nat) (h : f % 9223372036854775808 < 9218868437227405312) : ∃ m i, FloatKind.f64.format.read f = .number (f / 9223372036854775808 % 2 == 1) m i ∧ -1074 ≤ i ∧
    ∀ s, signed s m (i - -1074).toNat = signed s (mag (f % 9223372036854775808)) 0 := by
  rw [read_eq]
  generalize f % 9223372036854775808 = r at h
  by_cases h1 : r < 4503599627370496
  · rw [if_pos h1]
    exact ⟨_, _, rfl, by omega, fun s => by rw [show ((-1074 : Int) - -1074).toNat = 0 from rfl, mag, if_pos h1]⟩
  · rw [if_neg h1, if_pos h]
    refine ⟨_, _, rfl, by omega, fun s => ?_⟩
    rw [show (-1074 + ((r / 4503599627370496 - 1 : Nat) : Int) - -1074).toNat = r / 4503599627370496 - 1 by omega, mag, if_neg h1]
    simp only [signed, Nat.shiftLeft_eq, Nat.pow_zero, Nat.mul_one]

theorem signed_sr (f : Nat) : signed (f / 9223372036854775808 % 2 == 1) (f % 9223372036854775808) 0 = sr f := by
  simp [signed, sr]

theorem order_num (f g : Nat) (hf : f % 9223372036854775808 < 9218868437227405312) (hg : g % 9223372036854775808 < 9218868437227405312) :
    FloatKind.f64.format.order f g = some (compare (sr f) (sr g)) := by
  obtain ⟨m, i, h1, h2, h3⟩ := read_num f hf
  obtain ⟨n, j, k1, k2, k3⟩ := read_num g hg
  unfold Format.order
  rw [h1, k1, order_numbers _ _ _ _ _ _ (-1074) h2 k2, h3, k3, signed_mag_lt, signed_sr, signed_sr]

theorem read_inf (f : Nat) (h : f % 9223372036854775808 = 9218868437227405312) : FloatKind.f64.format.read f = .infinity (f / 9223372036854775808 % 2 == 1) := by
  rw [read_eq, h]; simp

theorem read_nan (f : Nat) (h : 9218868437227405312 < f % 9223372036854775808) : ∃ s t, FloatKind.f64.format.read f = .nan s t := by
  rw [read_eq, if_neg (by omega), if_neg (by omega), if_neg (by omega)]
  exact ⟨_, _, rfl⟩

theorem order_any (f g : Nat) (hf : f % 9223372036854775808 ≤ 9218868437227405312) (hg : g % 9223372036854775808 ≤ 9218868437227405312) :
    FloatKind.f64.format.order f g = some (compare (sr f) (sr g)) := by
  by_cases ef : f % 9223372036854775808 = 9218868437227405312
  · by_cases eg : g % 9223372036854775808 = 9218868437227405312
    · unfold Format.order
      rw [read_inf f ef, read_inf g eg]
      unfold sr
      rw [ef, eg]
      cases (f / 9223372036854775808 % 2 == 1) <;> cases (g / 9223372036854775808 % 2 == 1) <;> decide
    · obtain ⟨n, j, k1, k2, k3⟩ := read_num g (by omega)
      unfold Format.order
      rw [read_inf f ef, k1]
      unfold sr
      rw [ef]
      show some _ = _
      cases (f / 9223372036854775808 % 2 == 1)
      · simp only [Bool.false_eq_true, if_false]
        rw [Int.compare_eq_gt.2]
        split <;> omega
      · simp only [if_true]
        rw [Int.compare_eq_lt.2]
        split <;> omega
  · by_cases eg : g % 9223372036854775808 = 9218868437227405312
    · obtain ⟨n, j, k1, k2, k3⟩ := read_num f (by omega)
      unfold Format.order
      rw [read_inf g eg, k1]
      unfold sr
      rw [eg]
      show some _ = _
      cases (g / 9223372036854775808 % 2 == 1)
      · simp only [Bool.false_eq_true, if_false]
        rw [Int.compare_eq_lt.2]
        split <;> omega
      · simp only [if_true]
        rw [Int.compare_eq_gt.2]
        split <;> omega
    · exact order_num f g (by omega) (by omega)

theorem order_nan (f g : Nat) (hf : 9218868437227405312 < f % 9223372036854775808) : FloatKind.f64.format.order f g = none := by
  obtain ⟨s, t, h⟩ := read_nan f hf
  unfold Format.order
  rw [h]; rfl

theorem nanF_iff (f : Nat) : nanF f = true ↔ 9218868437227405312 < f % 9223372036854775808 := by
  unfold nanF
  by_cases h : 9218868437227405312 < f % 9223372036854775808
  · rw [order_nan f f h]; simp [h]
  · rw [order_any f f (by omega) (by omega), Int.compare_eq_eq.2 rfl]; simp [h]

theorem zeroF_iff (f : Nat) (hb : f < 18446744073709551616) : (FloatKind.f64.format.order f 0 == some .eq) = true ↔ f = 0 ∨ f = 9223372036854775808 := by
  by_cases h : 9218868437227405312 < f % 9223372036854775808
  · rw [order_nan f 0 h]
    simp; omega
  · rw [order_any f 0 (by omega) (by omega)]
    have e : sr 0 = 0 := by simp [sr]
    rw [e]
    constructor
    · intro h2
      have h3 : compare (sr f) 0 = .eq := by simpa using h2
      have h4 := Int.compare_eq_eq.1 h3
      unfold sr at h4
      split at h4 <;> omega
    · intro h2
      have h4 : sr f = 0 := by unfold sr; rcases h2 with h2 | h2 <;> (subst h2; decide)
      rw [h4]; decide

theorem canon_lt (f : Nat) (hb : f < 18446744073709551616) : canonF f < 18446744073709551616 := by
  unfold canonF; split
  · omega
  · split <;> omega

theorem isF_iff (f : Nat) (hb : f < 18446744073709551616) : isF f = true ↔ (f = 9221120237041090560 ∨ (f % 9223372036854775808 ≤ 9218868437227405312 ∧ f ≠ 9223372036854775808)) := by
  unfold isF canonF
  have hn := nanF_iff f
  have hz := zeroF_iff f hb
  by_cases h : nanF f = true
  · rw [if_pos h]
    have := hn.1 h
    rw [beq_iff_eq]
    omega
  · rw [if_neg h]
    have h1 : ¬ 9218868437227405312 < f % 9223372036854775808 := fun k => h (hn.2 k)
    by_cases k : (FloatKind.f64.format.order f 0 == some .eq) = true
    · rw [if_pos k]
      have := hz.1 k
      rw [beq_iff_eq]
      omega
    · rw [if_neg k]
      have k2 : ¬ (f = 0 ∨ f = 9223372036854775808) := fun e => k (hz.2 e)
      rw [beq_iff_eq]
      omega

theorem canon_of_is {f : Nat} (h : isF f = true) : canonF f = f := (beq_iff_eq.1 h).symm

theorem bits_lt (f : Nat) (hb : f < 18446744073709551616) : bitsF f < 18446744073709551616 := by
  have := canon_lt f hb
  unfold bitsF; split <;> omega

theorem unbits_lt (u : Nat) (hb : u < 18446744073709551616) : unbitsF u < 18446744073709551616 := by
  unfold unbitsF; split <;> omega

theorem unbits_bits (f : Nat) (hb : f < 18446744073709551616) (h : isF f = true) : unbitsF (bitsF f) = f := by
  unfold unbitsF bitsF
  rw [canon_of_is h]
  by_cases k : 9223372036854775808 ≤ f
  · rw [if_pos k, if_neg (by omega)]; omega
  · rw [if_neg k, if_pos (by omega)]; omega

theorem bits_unbits (u : Nat) (hb : u < 18446744073709551616) (h : isF (unbitsF u) = true) : bitsF (unbitsF u) = u := by
  unfold bitsF
  rw [canon_of_is h]
  unfold unbitsF
  by_cases k : 9223372036854775808 ≤ u
  · rw [if_pos k, if_neg (by omega)]; omega
  · rw [if_neg k, if_pos (by omega)]; omega

theorem from_bits (f : Nat) (hb : f < 18446744073709551616) (h : isF f = true) : fromF (bitsF f) = some f := by
  unfold fromF
  rw [unbits_bits f hb h, if_pos h]

theorem from_some {u f : Nat} (hb : u < 18446744073709551616) (h : fromF u = some f) : isF f = true ∧ bitsF f = u ∧ f < 18446744073709551616 := by
  unfold fromF at h
  split at h
  · rename_i k
    cases h
    exact ⟨k, bits_unbits u hb k, unbits_lt u hb⟩
  · cases h

theorem bits_eq (f : Nat) (h : isF f = true) : bitsF f = if 9223372036854775808 ≤ f then 18446744073709551615 - f else f + 9223372036854775808 := by
  unfold bitsF; rw [canon_of_is h]

/-- The order of canonical numbers is that of their words. -/
theorem cmp_bits (f g : Nat) (hf : f < 18446744073709551616) (hg : g < 18446744073709551616) (h : isF f = true) (k : isF g = true) :
    (cmpF f g < 0 ∧ bitsF f < bitsF g) ∨ (cmpF f g = 0 ∧ f = g) ∨ (0 < cmpF f g ∧ bitsF g < bitsF f) := by
  have a := (isF_iff f hf).1 h
  have b := (isF_iff g hg).1 k
  have na := nanF_iff f
  have nb := nanF_iff g
  rw [bits_eq f h, bits_eq g k]
  unfold cmpF rankF
  by_cases hna : nanF f = true
  · have := na.1 hna
    by_cases hnb : nanF g = true
    · have := nb.1 hnb
      simp only [hna, hnb, if_true]
      simp; omega
    · have : ¬ 9218868437227405312 < g % 9223372036854775808 := fun e => hnb (nb.2 e)
      simp only [hna, hnb]
      simp
      split <;> split <;> omega
  · have h1 : ¬ 9218868437227405312 < f % 9223372036854775808 := fun e => hna (na.2 e)
    by_cases hnb : nanF g = true
    · have := nb.1 hnb
      simp only [hna, hnb]
      simp
      split <;> split <;> omega
    · have h2 : ¬ 9218868437227405312 < g % 9223372036854775808 := fun e => hnb (nb.2 e)
      simp only [hna, hnb]
      rw [order_any f g (by omega) (by omega)]
      have sf : sr f = if 9223372036854775808 ≤ f then -((f - 9223372036854775808 : Nat) : Int) else (f : Int) := by
        unfold sr
        by_cases c : 9223372036854775808 ≤ f
        · rw [if_pos c, if_pos (by rw [beq_iff_eq]; omega)]; omega
        · rw [if_neg c, if_neg (by rw [beq_iff_eq]; omega)]; omega
      have sg : sr g = if 9223372036854775808 ≤ g then -((g - 9223372036854775808 : Nat) : Int) else (g : Int) := by
        unfold sr
        by_cases c : 9223372036854775808 ≤ g
        · rw [if_pos c, if_pos (by rw [beq_iff_eq]; omega)]; omega
        · rw [if_neg c, if_neg (by rw [beq_iff_eq]; omega)]; omega
      rcases Int.lt_trichotomy (sr f) (sr g) with e | e | e
      · rw [Int.compare_eq_lt.2 e]
        rw [sf, sg] at e
        refine Or.inl ⟨by simp, ?_⟩
        split at e <;> split at e <;> (repeat' split) <;> omega
      · rw [Int.compare_eq_eq.2 e]
        rw [sf, sg] at e
        refine Or.inr (Or.inl ⟨by simp, ?_⟩)
        split at e <;> split at e <;> omega
      · rw [Int.compare_eq_gt.2 e]
        rw [sf, sg] at e
        refine Or.inr (Or.inr ⟨by simp, ?_⟩)
        split at e <;> split at e <;> (repeat' split) <;> omega

end FloatW
end Go.Proofs.YtecmppmkidefmaaDoor
