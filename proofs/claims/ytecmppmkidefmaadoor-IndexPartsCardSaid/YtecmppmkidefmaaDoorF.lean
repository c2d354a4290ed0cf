/-
  The walks over floats: packages float (the program's) and liveryref01 (the reference): each comes to the plain functions of words.
-/
import Derived.Test.YtecmppmkidefmaaDoorRows
import Derived.Test.YtecmppmkidefmaaDoorFloat
import Derived.Test.YtecmppmkidefmaaDoorBits
import Derived.WalkKit
import Derived.WalkSpells
import Derived.WalkLawsBesides
import Derived.Lib.Hide
namespace Go.Proofs.YtecmppmkidefmaaDoor
open Go.RowKit

@[go_sem] theorem run_store_float (P : Program) (w : World) (a : Addr) (m : Mode) (k : FloatKind) (b : Nat) : (store a (.float k b) m).run P w = stored P w a (.float k b) m := run_store P w a _ m rfl

theorem bits_ext (f : Nat) (w : World) : (callFunc 45 #[.float .f64 f]).run Tryd.prog w = .ok (.value (.int .u64 f)) w := by kernel_rfl
theorem frombits_ext (f : Int) (w : World) : (callFunc 62 #[.int .u64 f]).run Tryd.prog w = .ok (.value (.float .f64 f.toNat)) w := by kernel_rfl

theorem canonF_nan {f : Nat} (h : nanF f = true) : canonF f = 9221120237041090560 := by simp only [canonF, h, if_true]
theorem canonF_zero {f : Nat} (h : nanF f = false) (hz : (FloatKind.f64.format.order f 0 == some .eq) = true) : canonF f = 0 := by simp [canonF, h, hz]
theorem canonF_else {f : Nat} (h : nanF f = false) (hz : (FloatKind.f64.format.order f 0 == some .eq) = false) : canonF f = f := by simp [canonF, h, hz]

set_option maxHeartbeats 400000 in
theorem isnan_any (f : Nat) (w : World) :
    Calls Tryd.prog 61 #[.float .f64 f] w fun e w' => e = .returned (.bool (nanF f)) ∧ w = w' := by
  go_enter Tryd.func61, Tryd.ntmps61
  go_wp2
  go_ret
  exact ⟨rfl, rfl⟩

set_option maxHeartbeats 400000 in
theorem canon_any (f : Nat) (w : World) :
    Calls Tryd.prog 68 #[.float .f64 f] w fun e w' => e = .returned (.float .f64 (canonF f)) ∧ w = w' := by
  have e56 := frombits_ext
  go_enter Tryd.func68, Tryd.ntmps68
  go_wp2
  all_goals go_ret
  · exact ⟨by rw [canonF_nan (by assumption)]; rfl, rfl⟩
  · exact ⟨by rw [canonF_zero (by assumption) (by assumption)]; rfl, rfl⟩
  · exact ⟨by rw [canonF_else (by assumption) (by assumption)]; rfl, rfl⟩

set_option maxHeartbeats 400000 in
theorem canon_ref (f : Nat) (w : World) :
    Calls Tryd.prog 46 #[.float .f64 f] w fun e w' => e = .returned (.float .f64 (canonF f)) ∧ w = w' := by
  have e56 := frombits_ext
  go_enter Tryd.func46, Tryd.ntmps46
  go_wp2_with (go_at_call 61; refine (isnan_any _ _).mono ?_; rintro e w' ⟨rfl, rfl⟩)
  all_goals go_ret
  · exact ⟨by rw [canonF_nan (by assumption)]; rfl, rfl⟩
  · exact ⟨by rw [canonF_zero (by assumption) (by assumption)]; rfl, rfl⟩
  · exact ⟨by rw [canonF_else (by assumption) (by assumption)]; rfl, rfl⟩

theorem cast_beq (a b : Nat) : ((a : Int) == (b : Int)) = (a == b) := by
  rw [Bool.eq_iff_iff, beq_iff_eq, beq_iff_eq]; omega
theorem cast_bne (a b : Nat) : ((a : Int) != (b : Int)) = (a != b) := by
  unfold bne; rw [cast_beq]
theorem bits_hi {c b : Nat} (h : c < 18446744073709551616) (e : (bits .and .u64 c 9223372036854775808 != 0) = true) (hb : b = if 9223372036854775808 ≤ c then 18446744073709551615 - c else c + 9223372036854775808) :
    bits .xor .u64 IntKind.u64.max c = (b : Int) := by
  rw [bits_and_sign c h] at e
  rw [bits_xor_ones c h, hb, if_pos (of_decide_eq_true e)]
theorem bits_lo {c b : Nat} (h : c < 18446744073709551616) (e : (bits .and .u64 c 9223372036854775808 != 0) = false) (hb : b = if 9223372036854775808 ≤ c then 18446744073709551615 - c else c + 9223372036854775808) :
    bits .or .u64 c 9223372036854775808 = (b : Int) := by
  rw [bits_and_sign c h] at e
  have := of_decide_eq_false e
  rw [bits_or_sign c (by omega), hb, if_neg this]
theorem ret_int {k : IntKind} {a b : Int} (h : a = b) : Ending.returned (.int k a) = .returned (.int k b) := by rw [h]

set_option maxHeartbeats 400000 in
theorem is_any (f : Nat) (w : World) :
    Calls Tryd.prog 78 #[.float .f64 f] w fun e w' => e = .returned (.bool (isF f)) ∧ w = w' := by
  have e35 := bits_ext
  have hfin : ((f : Int) == (canonF f : Int)) = isF f := cast_beq f (canonF f)
  have H := Lib.hid hfin
  clear hfin
  go_enter Tryd.func78, Tryd.ntmps78
  go_wp2_with (go_at_call 68; refine (canon_any _ _).mono ?_; rintro e w' ⟨rfl, rfl⟩)
  go_ret
  exact ⟨by rw [← H.out]; rfl, rfl⟩

set_option maxHeartbeats 400000 in
theorem is_ref (f : Nat) (w : World) :
    Calls Tryd.prog 29 #[.float .f64 f] w fun e w' => e = .returned (.bool (isF f)) ∧ w = w' := by
  have e35 := bits_ext
  have hfin : ((f : Int) == (canonF f : Int)) = isF f := cast_beq f (canonF f)
  have H := Lib.hid hfin
  clear hfin
  go_enter Tryd.func29, Tryd.ntmps29
  go_wp2_with (go_at_call 46; refine (canon_ref _ _).mono ?_; rintro e w' ⟨rfl, rfl⟩)
  go_ret
  exact ⟨by rw [← H.out]; rfl, rfl⟩

set_option maxHeartbeats 400000 in
theorem bits_any (f : Nat) (hf : f < 18446744073709551616) (w : World) :
    Calls Tryd.prog 50 #[.float .f64 f] w fun e w' => e = .returned (.int .u64 (bitsF f)) ∧ w = w' := by
  have e35 := bits_ext
  have HC := Lib.hid (FloatW.canon_lt f hf)
  clear hf
  go_enter Tryd.func50, Tryd.ntmps50
  go_wp2_with (go_at_call 68; refine (canon_any _ _).mono ?_; rintro e w' ⟨rfl, rfl⟩)
  all_goals go_ret
  · exact ⟨ret_int (bits_hi HC.out (by assumption) rfl), rfl⟩
  · exact ⟨ret_int (bits_lo HC.out (by assumption) rfl), rfl⟩

/-- Is the sign bit set? (Kept from the walk.) -/
def hiB (c : Nat) : Bool := decide (9223372036854775808 ≤ c)
theorem dec_sign (c : Nat) : decide ((9223372036854775808 : Int) ≤ (c : Int)) = hiB c := by unfold hiB; rw [decide_eq_decide]; omega
theorem wrap_add_sign (c : Nat) (h : hiB c = false) : IntKind.u64.wrap ((c : Int) + 9223372036854775808) = ((c + 9223372036854775808 : Nat) : Int) := by
  have h' : ¬ 9223372036854775808 ≤ c := of_decide_eq_false h
  rw [wraps_u64 _ (by omega) (by rw [show (2 : Int) ^ 64 = 18446744073709551616 from by decide]; omega)]; omega
theorem wrap_sub_sign (c : Nat) (h : hiB c = true) (hc : c < 18446744073709551616) : IntKind.u64.wrap ((c : Int) - 9223372036854775808) = ((c - 9223372036854775808 : Nat) : Int) := by
  have h' : 9223372036854775808 ≤ c := of_decide_eq_true h
  rw [wraps_u64 _ (by omega) (by rw [show (2 : Int) ^ 64 = 18446744073709551616 from by decide]; omega)]; omega

set_option maxHeartbeats 400000 in
theorem rank_any (f : Nat) (w : World) :
    Calls Tryd.prog 47 #[.float .f64 f] w fun e w' => e = .returned (.int .i64 (rankF f)) ∧ w = w' := by
  go_enter Tryd.func47, Tryd.ntmps47
  go_wp2_with (go_at_call 61; refine (isnan_any _ _).mono ?_; rintro e w' ⟨rfl, rfl⟩)
  all_goals go_ret
  · exact ⟨ret_int (by unfold rankF; rw [if_pos (by assumption)]), rfl⟩
  · exact ⟨ret_int (by unfold rankF; rw [if_neg (by simp [*])]), rfl⟩

theorem cmpF_1 (f g : Nat) (h : (rankF f != rankF g) = true) : wrap64 (rankF f - rankF g) = cmpF f g := by
  have h1 : rankF f = 0 ∨ rankF f = 1 := by unfold rankF; split <;> simp
  have h2 : rankF g = 0 ∨ rankF g = 1 := by unfold rankF; split <;> simp
  unfold cmpF; rw [if_pos (bne_iff_ne.1 h)]; unfold wrap64; omega
theorem cmpF_2 (f g : Nat) (h : (rankF f != rankF g) = false) (h1 : (rankF f == 1) = true) : cmpF f g = 0 := by
  unfold cmpF; rw [if_neg (by simpa using h), if_pos (by simpa using h1)]
theorem cmpF_3 (f g : Nat) (h : (rankF f != rankF g) = false) (h1 : (rankF f == 1) = false) (h2 : (FloatKind.f64.format.order f g == some .lt) = true) : cmpF f g = -1 := by
  unfold cmpF; rw [if_neg (by simpa using h), if_neg (by simpa using h1), if_pos h2]
theorem cmpF_4 (f g : Nat) (h : (rankF f != rankF g) = false) (h1 : (rankF f == 1) = false) (h2 : (FloatKind.f64.format.order f g == some .lt) = false) (h3 : (FloatKind.f64.format.order f g == some .gt) = true) : cmpF f g = 1 := by
  unfold cmpF; rw [if_neg (by simpa using h), if_neg (by simpa using h1), if_neg (by rw [h2]; decide), if_pos h3]
theorem cmpF_5 (f g : Nat) (h : (rankF f != rankF g) = false) (h1 : (rankF f == 1) = false) (h2 : (FloatKind.f64.format.order f g == some .lt) = false) (h3 : (FloatKind.f64.format.order f g == some .gt) = false) : cmpF f g = 0 := by
  unfold cmpF; rw [if_neg (by simpa using h), if_neg (by simpa using h1), if_neg (by rw [h2]; decide), if_neg (by rw [h3]; decide)]

set_option maxHeartbeats 400000 in
theorem cmpf_ref (f g : Nat) (w : World) :
    Calls Tryd.prog 30 #[.float .f64 f, .float .f64 g] w fun e w' => e = .returned (.int .i64 (cmpF f g)) ∧ w = w' := by
  go_enter Tryd.func30, Tryd.ntmps30
  go_wp2_with (go_at_call 47; refine (rank_any _ _).mono ?_; rintro e w' ⟨rfl, rfl⟩)
  all_goals go_ret
  · exact ⟨ret_int (cmpF_1 f g (by assumption)), rfl⟩
  · exact ⟨ret_int (cmpF_2 f g (by assumption) (by assumption)).symm, rfl⟩
  · exact ⟨ret_int (cmpF_3 f g (by assumption) (by assumption) (by assumption)).symm, rfl⟩
  · exact ⟨ret_int (cmpF_4 f g (by assumption) (by assumption) (by assumption) (by assumption)).symm, rfl⟩
  · exact ⟨ret_int (cmpF_5 f g (by assumption) (by assumption) (by assumption) (by assumption)).symm, rfl⟩

set_option maxHeartbeats 400000 in
theorem plain_ref (f : Nat) (w : World) :
    Calls Tryd.prog 28 #[.float .f64 f] w fun e w' => e = .returned (.bool (f == 0)) ∧ w = w' := by
  have e35 := bits_ext
  have H := Lib.hid (cast_beq f 0)
  go_enter Tryd.func28, Tryd.ntmps28
  go_wp2
  go_ret
  exact ⟨by rw [← H.out]; rfl, rfl⟩

/-- What From answers: the word, or nought, and whether there is one. -/
def fromV (u : Nat) : Nat := (fromF u).getD 0

theorem from_no {u x : Nat} (e : x = unbitsF u) (h : (!isF x) = true) : fromV u = 0 ∧ (fromF u).isSome = false := by
  subst e; have : fromF u = none := by unfold fromF; rw [if_neg (by simpa using h)]
  unfold fromV; rw [this]; exact ⟨rfl, rfl⟩
theorem from_yes {u x : Nat} (e : x = unbitsF u) (h : (!isF x) = false) : fromV u = x ∧ (fromF u).isSome = true := by
  subst e; have : fromF u = some (unbitsF u) := by unfold fromF; rw [if_pos (by simpa using h)]
  unfold fromV; rw [this]; exact ⟨rfl, rfl⟩
theorem un_hi {u : Nat} (h : u < 18446744073709551616) (e : (bits .and .u64 u 9223372036854775808 != 0) = true) : (bits .andNot .u64 u 9223372036854775808).toNat = unbitsF u := by
  rw [bits_and_sign u h] at e
  have e := of_decide_eq_true e
  unfold unbitsF; rw [bits_andNot_sign u h e, if_pos e]; omega
theorem un_lo {u : Nat} (h : u < 18446744073709551616) (e : (bits .and .u64 u 9223372036854775808 != 0) = false) : (bits .xor .u64 IntKind.u64.max u).toNat = unbitsF u := by
  rw [bits_and_sign u h] at e
  have e := of_decide_eq_false e
  unfold unbitsF; rw [bits_xor_ones u h, if_neg e]; omega
theorem un_lo' {u : Nat} (h : u < 18446744073709551616) (e : (bits .and .u64 u 9223372036854775808 != 0) = false) : (bits .xor .u64 (if IntKind.u64.signed = true then -1 else IntKind.u64.max) u).toNat = unbitsF u := un_lo h e
theorem ret_two {a b : Value} {a' b' : Value} (h : a = a') (k : b = b') : Ending.returned (.tuple #[a, b]) = .returned (.tuple #[a', b']) := by rw [h, k]

set_option maxHeartbeats 400000 in
theorem from_any (u : Nat) (hu : u < 18446744073709551616) (w : World) :
    Calls Tryd.prog 87 #[.int .u64 u] w fun e w' => e = .returned (.tuple #[.float .f64 (fromV u), .bool (fromF u).isSome]) ∧ w = w' := by
  have e56 := frombits_ext
  have HC := Lib.hid hu
  clear hu
  go_enter Tryd.func87, Tryd.ntmps87
  go_wp2_with (go_at_call 78; refine (is_any _ _).mono ?_; rintro e w' ⟨rfl, rfl⟩)
  all_goals go_ret2
  · have h := from_no (un_hi HC.out (by assumption)) (by assumption)
    exact ⟨by rw [h.1, h.2]; rfl, rfl⟩
  · have h := from_yes (un_hi HC.out (by assumption)) (by assumption)
    exact ⟨by rw [h.1, h.2]; rfl, rfl⟩
  · have h := from_no (un_lo HC.out (by assumption)) (by assumption)
    exact ⟨by rw [h.1, h.2]; rfl, rfl⟩
  · have h := from_yes (un_lo HC.out (by assumption)) (by assumption)
    exact ⟨by rw [h.1, h.2]; rfl, rfl⟩

theorem from_is {u : Nat} (h : isF (unbitsF u) = true) : fromV u = unbitsF u ∧ (fromF u).isSome = true := from_yes rfl (by rw [h]; rfl)
theorem from_isnt {u : Nat} (h : ¬ isF (unbitsF u) = true) : fromV u = 0 ∧ (fromF u).isSome = false := from_no rfl (by simp only [Bool.not_eq_true] at h; rw [h]; rfl)
theorem back_bits {u x : Nat} (hu : u < 18446744073709551616) (hx : x = unbitsF u) (h : isF x = true) : ((bitsF x : Int) != (u : Int)) = false := by
  subst hx; rw [cast_bne, FloatW.bits_unbits u hu h]; simp

end Go.Proofs.YtecmppmkidefmaaDoor
