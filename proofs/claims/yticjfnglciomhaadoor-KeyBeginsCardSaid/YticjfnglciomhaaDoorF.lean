/-
  The walks over floats: packages float (the program's) and liveryref01 (the reference): each comes to the plain functions of words.
-/
import Derived.Test.YticjfnglciomhaaDoorRows
import Derived.Test.YticjfnglciomhaaDoorFloat
import Derived.Test.YticjfnglciomhaaDoorBits
import Derived.WalkKit
import Derived.WalkSpells
import Derived.WalkLawsBesides
import Derived.Lib.Hide
namespace Go.Proofs.YticjfnglciomhaaDoor
open Go.RowKit

@[go_sem] theorem run_store_float (P : Program) (w : World) (a : Addr) (m : Mode) (k : FloatKind) (b : Nat) : (store a (.float k b) m).run P w = stored P w a (.float k b) m := run_store P w a _ m rfl

theorem bits_ext (f : Nat) (w : World) : (callFunc 35 #[.float .f64 f]).run Tryd.prog w = .ok (.value (.int .u64 f)) w := by kernel_rfl
theorem frombits_ext (f : Int) (w : World) : (callFunc 56 #[.int .u64 f]).run Tryd.prog w = .ok (.value (.float .f64 f.toNat)) w := by kernel_rfl

theorem canonF_nan {f : Nat} (h : nanF f = true) : canonF f = 9221120237041090560 := by simp only [canonF, h, if_true]
theorem canonF_zero {f : Nat} (h : nanF f = false) (hz : (FloatKind.f64.format.order f 0 == some .eq) = true) : canonF f = 0 := by simp [canonF, h, hz]
theorem canonF_else {f : Nat} (h : nanF f = false) (hz : (FloatKind.f64.format.order f 0 == some .eq) = false) : canonF f = f := by simp [canonF, h, hz]

set_option maxHeartbeats 400000 in
theorem isnan_any (f : Nat) (w : World) :
    Calls Tryd.prog 55 #[.float .f64 f] w fun e w' => e = .returned (.bool (nanF f)) ∧ w = w' := by
  go_enter Tryd.func55, Tryd.ntmps55
  go_wp2
  go_ret
  exact ⟨rfl, rfl⟩

set_option maxHeartbeats 400000 in
theorem canon_any (f : Nat) (w : World) :
    Calls Tryd.prog 46 #[.float .f64 f] w fun e w' => e = .returned (.float .f64 (canonF f)) ∧ w = w' := by
  have e56 := frombits_ext
  go_enter Tryd.func46, Tryd.ntmps46
  go_wp2
  all_goals go_ret
  · exact ⟨by rw [canonF_nan (by assumption)]; rfl, rfl⟩
  · exact ⟨by rw [canonF_zero (by assumption) (by assumption)]; rfl, rfl⟩
  · exact ⟨by rw [canonF_else (by assumption) (by assumption)]; rfl, rfl⟩

set_option maxHeartbeats 400000 in
theorem canon_ref (f : Nat) (w : World) :
    Calls Tryd.prog 39 #[.float .f64 f] w fun e w' => e = .returned (.float .f64 (canonF f)) ∧ w = w' := by
  have e56 := frombits_ext
  go_enter Tryd.func39, Tryd.ntmps39
  go_wp2_with (go_at_call 55; refine (isnan_any _ _).mono ?_; rintro e w' ⟨rfl, rfl⟩)
  all_goals go_ret
  · exact ⟨by rw [canonF_nan (by assumption)]; rfl, rfl⟩
  · exact ⟨by rw [canonF_zero (by assumption) (by assumption)]; rfl, rfl⟩
  · exact ⟨by rw [canonF_else (by assumption) (by assumption)]; rfl, rfl⟩

theorem cast_beq (a b : Nat) : ((a : Int) == (b : Int)) = (a == b) := by
  rw [Bool.eq_iff_iff, beq_iff_eq, beq_iff_eq]; omega
theorem cast_bne (a b : Nat) : ((a : Int) != (b : Int)) = (a != b) := by
  unfold bne; rw [cast_beq]
theorem bits_hi {c b : Nat} (h : c < 18446744073709551616) (e : (bits .and .u64 c 9223372036854775808 != 0) = true) (hb : b = if 9223372036854775808 ≤ c then 18446744073709551615 - c else c + 9223372036854775808) :
    bits .xor .u64 IntKind.u64.max c = (b : Int) := by
  rw [bits_and_sign c h] at e
  rw [bits_xor_ones c h, hb, if_pos (of_decide_eq_true e)]
theorem bits_lo {c b : Nat} (h : c < 18446744073709551616) (e : (bits .and .u64 c 9223372036854775808 != 0) = false) (hb : b = if 9223372036854775808 ≤ c then 18446744073709551615 - c else c + 9223372036854775808) :
    bits .or .u64 c 9223372036854775808 = (b : Int) := by
  rw [bits_and_sign c h] at e
  have := of_decide_eq_false e
  rw [bits_or_sign c (by omega), hb, if_neg this]
theorem ret_int {k : IntKind} {a b : Int} (h : a = b) : Ending.returned (.int k a) = .returned (.int k b) := by rw [h]

set_option maxHeartbeats 400000 in
theorem is_any (f : Nat) (w : World) :
    Calls Tryd.prog 58 #[.float .f64 f] w fun e w' => e = .returned (.bool (isF f)) ∧ w = w' := by
  have e35 := bits_ext
  have hfin : ((f : Int) == (canonF f : Int)) = isF f := cast_beq f (canonF f)
  have H := Lib.hid hfin
  clear hfin
  go_enter Tryd.func58, Tryd.ntmps58
  go_wp2_with (go_at_call 46; refine (canon_any _ _).mono ?_; rintro e w' ⟨rfl, rfl⟩)
  go_ret
  exact ⟨by rw [← H.out]; rfl, rfl⟩

set_option maxHeartbeats 400000 in
theorem is_ref (f : Nat) (w : World) :
    Calls Tryd.prog 27 #[.float .f64 f] w fun e w' => e = .returned (.bool (isF f)) ∧ w = w' := by
  have e35 := bits_ext
  have hfin : ((f : Int) == (canonF f : Int)) = isF f := cast_beq f (canonF f)
  have H := Lib.hid hfin
  clear hfin
  go_enter Tryd.func27, Tryd.ntmps27
  go_wp2_with (go_at_call 39; refine (canon_ref _ _).mono ?_; rintro e w' ⟨rfl, rfl⟩)
  go_ret
  exact ⟨by rw [← H.out]; rfl, rfl⟩

set_option maxHeartbeats 400000 in
theorem bits_any (f : Nat) (hf : f < 18446744073709551616) (w : World) :
    Calls Tryd.prog 31 #[.float .f64 f] w fun e w' => e = .returned (.int .u64 (bitsF f)) ∧ w = w' := by
  have e35 := bits_ext
  have HC := Lib.hid (FloatW.canon_lt f hf)
  clear hf
  go_enter Tryd.func31, Tryd.ntmps31
  go_wp2_with (go_at_call 46; refine (canon_any _ _).mono ?_; rintro e w' ⟨rfl, rfl⟩)
  all_goals go_ret
  · exact ⟨ret_int (bits_hi HC.out (by assumption) rfl), rfl⟩
  · exact ⟨ret_int (bits_lo HC.out (by assumption) rfl), rfl⟩

/-- Is the sign bit set? (Kept from the walk.) -/
def hiB (c : Nat) : Bool := decide (9223372036854775808 ≤ c)
theorem dec_sign (c : Nat) : decide ((9223372036854775808 : Int) ≤ (c : Int)) = hiB c := by unfold hiB; rw [decide_eq_decide]; omega
theorem wrap_add_sign (c : Nat) (h : hiB c = false) : IntKind.u64.wrap ((c : Int) + 9223372036854775808) = ((c + 9223372036854775808 : Nat) : Int) := by
  have h' : ¬ 9223372036854775808 ≤ c := of_decide_eq_false h
  rw [wraps_u64 _ (by omega) (by rw [show (2 : Int) ^ 64 = 18446744073709551616 from by decide]; omega)]; omega
theorem wrap_sub_sign (c : Nat) (h : hiB c = true) (hc : c < 18446744073709551616) : IntKind.u64.wrap ((c : Int) - 9223372036854775808) = ((c - 9223372036854775808 : Nat) : Int) := by
  have h' : 9223372036854775808 ≤ c := of_decide_eq_true h
  rw [wraps_u64 _ (by omega) (by rw [show (2 : Int) ^ 64 = 18446744073709551616 from by decide]; omega)]; omega

set_option maxHeartbeats 400000 in
theorem bits_ref (f : Nat) (hf : f < 18446744073709551616) (w : World) :
    Calls Tryd.prog 38 #[.float .f64 f] w fun e w' => e = .returned (.int .u64 (bitsF f)) ∧ w = w' := by
  have e35 := bits_ext
  have HC := Lib.hid (FloatW.canon_lt f hf)
  have q := dec_sign (canonF f)
  clear hf
  cases hh : hiB (canonF f)
  · have Q2 := Lib.hid (wrap_add_sign (canonF f) hh)
    have hfin : bitsF f = canonF f + 9223372036854775808 := by unfold bitsF; rw [if_neg (of_decide_eq_false hh)]
    have HF := Lib.hid hfin
    clear hfin
    go_enter Tryd.func38, Tryd.ntmps38
    go_wp2_with (go_at_call 39; refine (canon_ref _ _).mono ?_; rintro e w' ⟨rfl, rfl⟩)
    go_ret
    exact ⟨ret_int (by rw [HF.out, Q2.out]), rfl⟩
  · have hfin : bitsF f = 18446744073709551615 - canonF f := by unfold bitsF; rw [if_pos (of_decide_eq_true hh)]
    have HF := Lib.hid hfin
    clear hfin
    go_enter Tryd.func38, Tryd.ntmps38
    go_wp2_with (go_at_call 39; refine (canon_ref _ _).mono ?_; rintro e w' ⟨rfl, rfl⟩)
    go_ret
    exact ⟨ret_int (by rw [HF.out, bits_xor_ones _ HC.out]), rfl⟩

set_option maxHeartbeats 400000 in
theorem rank_any (f : Nat) (w : World) :
    Calls Tryd.prog 48 #[.float .f64 f] w fun e w' => e = .returned (.int .i64 (rankF f)) ∧ w = w' := by
  go_enter Tryd.func48, Tryd.ntmps48
  go_wp2_with (go_at_call 55; refine (isnan_any _ _).mono ?_; rintro e w' ⟨rfl, rfl⟩)
  all_goals go_ret
  · exact ⟨ret_int (by unfold rankF; rw [if_pos (by assumption)]), rfl⟩
  · exact ⟨ret_int (by unfold rankF; rw [if_neg (by simp [*])]), rfl⟩

theorem cmpF_1 (f g : Nat) (h : (rankF f != rankF g) = true) : wrap64 (rankF f - rankF g) = cmpF f g := by
  have h1 : rankF f = 0 ∨ rankF f = 1 := by unfold rankF; split <;> simp
  have h2 : rankF g = 0 ∨ rankF g = 1 := by unfold rankF; split <;> simp
  unfold cmpF; rw [if_pos (bne_iff_ne.1 h)]; unfold wrap64; omega
theorem cmpF_2 (f g : Nat) (h : (rankF f != rankF g) = false) (h1 : (rankF f == 1) = true) : cmpF f g = 0 := by
  unfold cmpF; rw [if_neg (by simpa using h), if_pos (by simpa using h1)]
theorem cmpF_3 (f g : Nat) (h : (rankF f != rankF g) = false) (h1 : (rankF f == 1) = false) (h2 : (FloatKind.f64.format.order f g == some .lt) = true) : cmpF f g = -1 := by
  unfold cmpF; rw [if_neg (by simpa using h), if_neg (by simpa using h1), if_pos h2]
theorem cmpF_4 (f g : Nat) (h : (rankF f != rankF g) = false) (h1 : (rankF f == 1) = false) (h2 : (FloatKind.f64.format.order f g == some .lt) = false) (h3 : (FloatKind.f64.format.order f g == some .gt) = true) : cmpF f g = 1 := by
  unfold cmpF; rw [if_neg (by simpa using h), if_neg (by simpa using h1), if_neg (by rw [h2]; decide), if_pos h3]
theorem cmpF_5 (f g : Nat) (h : (rankF f != rankF g) = false) (h1 : (rankF f == 1) = false) (h2 : (FloatKind.f64.format.order f g == some .lt) = false) (h3 : (FloatKind.f64.format.order f g == some .gt) = false) : cmpF f g = 0 := by
  unfold cmpF; rw [if_neg (by simpa using h), if_neg (by simpa using h1), if_neg (by rw [h2]; decide), if_neg (by rw [h3]; decide)]

set_option maxHeartbeats 400000 in
theorem cmpf_ref (f g : Nat) (w : World) :
    Calls Tryd.prog 33 #[.float .f64 f, .float .f64 g] w fun e w' => e = .returned (.int .i64 (cmpF f g)) ∧ w = w' := by
  go_enter Tryd.func33, Tryd.ntmps33
  go_wp2_with (go_at_call 48; refine (rank_any _ _).mono ?_; rintro e w' ⟨rfl, rfl⟩)
  all_goals go_ret
  · exact ⟨ret_int (cmpF_1 f g (by assumption)), rfl⟩
  · exact ⟨ret_int (cmpF_2 f g (by assumption) (by assumption)).symm, rfl⟩
  · exact ⟨ret_int (cmpF_3 f g (by assumption) (by assumption) (by assumption)).symm, rfl⟩
  · exact ⟨ret_int (cmpF_4 f g (by assumption) (by assumption) (by assumption) (by assumption)).symm, rfl⟩
  · exact ⟨ret_int (cmpF_5 f g (by assumption) (by assumption) (by assumption) (by assumption)).symm, rfl⟩

set_option maxHeartbeats 400000 in
theorem plain_ref (f : Nat) (w : World) :
    Calls Tryd.prog 26 #[.float .f64 f] w fun e w' => e = .returned (.bool (f == 0)) ∧ w = w' := by
  have e35 := bits_ext
  have H := Lib.hid (cast_beq f 0)
  go_enter Tryd.func26, Tryd.ntmps26
  go_wp2
  go_ret
  exact ⟨by rw [← H.out]; rfl, rfl⟩

/-- What From answers: the word, or nought, and whether there is one. -/
def fromV (u : Nat) : Nat := (fromF u).getD 0

theorem from_no {u x : Nat} (e : x = unbitsF u) (h : (!isF x) = true) : fromV u = 0 ∧ (fromF u).isSome = false := by
  subst e; have : fromF u = none := by unfold fromF; rw [if_neg (by simpa using h)]
  unfold fromV; rw [this]; exact ⟨rfl, rfl⟩
theorem from_yes {u x : Nat} (e : x = unbitsF u) (h : (!isF x) = false) : fromV u = x ∧ (fromF u).isSome = true := by
  subst e; have : fromF u = some (unbitsF u) := by unfold fromF; rw [if_pos (by simpa using h)]
  unfold fromV; rw [this]; exact ⟨rfl, rfl⟩
theorem un_hi {u : Nat} (h : u < 18446744073709551616) (e : (bits .and .u64 u 9223372036854775808 != 0) = true) : (bits .andNot .u64 u 9223372036854775808).toNat = unbitsF u := by
  rw [bits_and_sign u h] at e
  have e := of_decide_eq_true e
  unfold unbitsF; rw [bits_andNot_sign u h e, if_pos e]; omega
theorem un_lo {u : Nat} (h : u < 18446744073709551616) (e : (bits .and .u64 u 9223372036854775808 != 0) = false) : (bits .xor .u64 IntKind.u64.max u).toNat = unbitsF u := by
  rw [bits_and_sign u h] at e
  have e := of_decide_eq_false e
  unfold unbitsF; rw [bits_xor_ones u h, if_neg e]; omega
theorem un_lo' {u : Nat} (h : u < 18446744073709551616) (e : (bits .and .u64 u 9223372036854775808 != 0) = false) : (bits .xor .u64 (if IntKind.u64.signed = true then -1 else IntKind.u64.max) u).toNat = unbitsF u := un_lo h e
theorem ret_two {a b : Value} {a' b' : Value} (h : a = a') (k : b = b') : Ending.returned (.tuple #[a, b]) = .returned (.tuple #[a', b']) := by rw [h, k]

set_option maxHeartbeats 400000 in
theorem from_any (u : Nat) (hu : u < 18446744073709551616) (w : World) :
    Calls Tryd.prog 50 #[.int .u64 u] w fun e w' => e = .returned (.tuple #[.float .f64 (fromV u), .bool (fromF u).isSome]) ∧ w = w' := by
  have e56 := frombits_ext
  have HC := Lib.hid hu
  clear hu
  go_enter Tryd.func50, Tryd.ntmps50
  go_wp2_with (go_at_call 58; refine (is_any _ _).mono ?_; rintro e w' ⟨rfl, rfl⟩)
  all_goals go_ret2
  · have h := from_no (un_hi HC.out (by assumption)) (by assumption)
    exact ⟨by rw [h.1, h.2]; rfl, rfl⟩
  · have h := from_yes (un_hi HC.out (by assumption)) (by assumption)
    exact ⟨by rw [h.1, h.2]; rfl, rfl⟩
  · have h := from_no (un_lo HC.out (by assumption)) (by assumption)
    exact ⟨by rw [h.1, h.2]; rfl, rfl⟩
  · have h := from_yes (un_lo HC.out (by assumption)) (by assumption)
    exact ⟨by rw [h.1, h.2]; rfl, rfl⟩

theorem from_is {u : Nat} (h : isF (unbitsF u) = true) : fromV u = unbitsF u ∧ (fromF u).isSome = true := from_yes rfl (by rw [h]; rfl)
theorem from_isnt {u : Nat} (h : ¬ isF (unbitsF u) = true) : fromV u = 0 ∧ (fromF u).isSome = false := from_no rfl (by simp only [Bool.not_eq_true] at h; rw [h]; rfl)
theorem back_bits {u x : Nat} (hu : u < 18446744073709551616) (hx : x = unbitsF u) (h : isF x = true) : ((bitsF x : Int) != (u : Int)) = false := by
  subst hx; rw [cast_bne, FloatW.bits_unbits u hu h]; simp

set_option maxHeartbeats 400000 in
theorem from_ref (u : Nat) (hu : u < 18446744073709551616) (w : World) :
    Calls Tryd.prog 53 #[.int .u64 u] w fun e w' => e = .returned (.agg #[.float .f64 (fromV u), .bool (fromF u).isSome]) ∧ Below w.heap.size w w' := by
  have e56 := frombits_ext
  have sg : IntKind.u64.signed = false := rfl
  have HC := Lib.hid hu
  have HL := Lib.hid (FloatW.unbits_lt u hu)
  have q := dec_sign u
  clear hu
  cases hh : hiB u
  · have hx : (bits BinOp.xor IntKind.u64 IntKind.u64.max u).toNat = unbitsF u := by
      have := of_decide_eq_false hh
      unfold unbitsF; rw [bits_xor_ones u HC.out, if_neg this]; omega
    cases hi : isF (unbitsF u)
    · have HF := Lib.hid (from_isnt (u := u) (by rw [hi]; decide))
      go_enter Tryd.func53, Tryd.ntmps53
      go_wp2_with (first | (go_at_call 27; refine (is_ref _ _).mono ?_; rintro e w' ⟨rfl, rfl⟩) | (go_at_call 38; refine (bits_ref _ HL.out _).mono ?_; rintro e w' ⟨rfl, rfl⟩))
      exact bodyPost_ret (v := .agg #[.float .f64 0, .bool false]) (by simp [results, Tryd.results53, go_sem]) rfl ⟨by rw [HF.out.1, HF.out.2], (Below.refl _ _).alloc (Nat.le_refl _) _⟩
    · have HF := Lib.hid (from_is (u := u) hi)
      have hb := back_bits HC.out rfl hi
      go_enter Tryd.func53, Tryd.ntmps53
      go_wp2_with (first | (go_at_call 27; refine (is_ref _ _).mono ?_; rintro e w' ⟨rfl, rfl⟩) | (go_at_call 38; refine (bits_ref _ HL.out _).mono ?_; rintro e w' ⟨rfl, rfl⟩))
      exact bodyPost_ret (v := .agg #[.float .f64 (unbitsF u), .bool true]) (by simp [results, Tryd.results53, go_sem]) rfl ⟨by rw [HF.out.1, HF.out.2], (Below.refl _ _).alloc (Nat.le_refl _) _⟩
  · have hx : (IntKind.u64.wrap ((u : Int) - 9223372036854775808)).toNat = unbitsF u := by
      have := of_decide_eq_true hh
      unfold unbitsF; rw [wrap_sub_sign u hh HC.out, if_pos this]; omega
    cases hi : isF (unbitsF u)
    · have HF := Lib.hid (from_isnt (u := u) (by rw [hi]; decide))
      go_enter Tryd.func53, Tryd.ntmps53
      go_wp2_with (first | (go_at_call 27; refine (is_ref _ _).mono ?_; rintro e w' ⟨rfl, rfl⟩) | (go_at_call 38; refine (bits_ref _ HL.out _).mono ?_; rintro e w' ⟨rfl, rfl⟩))
      exact bodyPost_ret (v := .agg #[.float .f64 0, .bool false]) (by simp [results, Tryd.results53, go_sem]) rfl ⟨by rw [HF.out.1, HF.out.2], (Below.refl _ _).alloc (Nat.le_refl _) _⟩
    · have HF := Lib.hid (from_is (u := u) hi)
      have hb := back_bits HC.out rfl hi
      go_enter Tryd.func53, Tryd.ntmps53
      go_wp2_with (first | (go_at_call 27; refine (is_ref _ _).mono ?_; rintro e w' ⟨rfl, rfl⟩) | (go_at_call 38; refine (bits_ref _ HL.out _).mono ?_; rintro e w' ⟨rfl, rfl⟩))
      exact bodyPost_ret (v := .agg #[.float .f64 (unbitsF u), .bool true]) (by simp [results, Tryd.results53, go_sem]) rfl ⟨by rw [HF.out.1, HF.out.2], (Below.refl _ _).alloc (Nat.le_refl _) _⟩

end Go.Proofs.YticjfnglciomhaaDoor
