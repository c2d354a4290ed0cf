/-
  The walk over KeyMakes: the program's keys are the document's.
-/
import Derived.Test.YticjfnglciomhaaDoorL0
namespace Go.Proofs.YticjfnglciomhaaDoor
open Go.RowKit

/-- One value that the law has laid, and what a call leaves of it. -/
structure Laid1 (w0 w : World) (A : Array Value) : Prop where
  a : Row5 w w0.heap.size 24 A
  size : w0.heap.size + 1 ≤ w.heap.size
  max : MaxAt w
  below : Below w0.heap.size w0 w
theorem Laid1.call {w0 w w' : World} {A : Array Value} (h : Laid1 w0 w A) (hb : Below w.heap.size w w') : Laid1 w0 w' A :=
  have hs := h.size
  have := hb.size
  ⟨h.a.below hb (by omega), by omega, h.max.below hb, h.below.trans (hb.mono (by omega))⟩
theorem Laid1.alloc {w0 w : World} {A : Array Value} (h : Laid1 w0 w A) (o : Obj) : Laid1 w0 (w.alloc o) A := h.call ((Below.refl _ _).alloc (Nat.le_refl _) o)
theorem Laid1.start (w0 : World) (A : Array Value) (hM : MaxAt w0) : Laid1 w0 (w0.alloc (.cells A 24)) A :=
  ⟨Row5.new w0 _ A, by simp, hM.alloc _, (Below.refl _ _).alloc (Nat.le_refl _) _⟩

set_option maxHeartbeats 4000000 in
set_option maxRecDepth 100000 in
theorem makes_large (k n : Int) (f : Nat) (s : ByteArray) (m : Int) (h : decide (2000 < (s.size : Int)) = true) (w : World) (hM : MaxAt w) :
    Calls Tryd.prog 7 #[V k n f s, .int .i64 m] w fun e w' => e = .returned (.bool true) ∧ Below w.heap.size w w' := by
  have HL := Lib.hid (Laid1.start w #[.int .i64 k, .int .i64 n, .float .f64 f, .string s] hM)
  clear hM
  have c0 := HL.out.a.cell 0; have c1 := HL.out.a.cell 1; have c2 := HL.out.a.cell 2; have c3 := HL.out.a.cell 3
  go_enter Tryd.func7, Tryd.ntmps7
  go_wp2_with (first | (go_at_call 14; refine (large_any _ _ _ _ _).mono ?_; rintro e w1 ⟨rfl, hb⟩; replace HL := Lib.hid (HL.out.call hb); clear c0 c1 c2 c3; have c0 := HL.out.a.cell 0; have c1 := HL.out.a.cell 1; have c2 := HL.out.a.cell 2; have c3 := HL.out.a.cell 3; clear hb) | (go_at_call 10; refine (wakes_any _ HL.out.max).mono ?_; rintro e w1 ⟨rfl, hb⟩; replace HL := Lib.hid (HL.out.call hb); clear c0 c1 c2 c3; have c0 := HL.out.a.cell 0; have c1 := HL.out.a.cell 1; have c2 := HL.out.a.cell 2; have c3 := HL.out.a.cell 3; clear hb))
  go_ret
  exact ⟨rfl, HL.out.below⟩


set_option maxHeartbeats 4000000 in
set_option maxRecDepth 100000 in
theorem makes_plain (k n : Int) (f : Nat) (s : ByteArray) (m : Int) (h : decide (2000 < (s.size : Int)) = false) (hn : -9223372036854775808 ≤ n ∧ n ≤ 9223372036854775807) (hf : f < 18446744073709551616) (w : World) (hM : MaxAt w) :
    Calls Tryd.prog 7 #[V k n f s, .int .i64 m] w fun e w' => e = .returned (.bool true) ∧ Below w.heap.size w w' := by
  have HL := Lib.hid (Laid1.start w #[.int .i64 k, .int .i64 n, .float .f64 f, .string s] hM)
  clear hM
  have HN := Lib.hid hn
  have HF := Lib.hid hf
  clear hn hf
  have c0 := HL.out.a.cell 0; have c1 := HL.out.a.cell 1; have c2 := HL.out.a.cell 2; have c3 := HL.out.a.cell 3
  go_enter Tryd.func7, Tryd.ntmps7
  go_wp2_with (first | (go_at_call 14; refine (large_any _ _ _ _ _).mono ?_; rintro e w1 ⟨rfl, hb⟩; replace HL := Lib.hid (HL.out.call hb); clear c0 c1 c2 c3; have c0 := HL.out.a.cell 0; have c1 := HL.out.a.cell 1; have c2 := HL.out.a.cell 2; have c3 := HL.out.a.cell 3; clear hb) | (go_at_call 11; refine (of_any _ _ _ _ HN.out HF.out _ HL.out.max).mono ?_; rintro e w1 ⟨rfl, hb⟩; replace HL := Lib.hid (HL.out.call hb); clear c0 c1 c2 c3; have c0 := HL.out.a.cell 0; have c1 := HL.out.a.cell 1; have c2 := HL.out.a.cell 2; have c3 := HL.out.a.cell 3; clear hb) | (go_at_call 20; refine (rof_any _ _ _ _ HN.out HF.out _).mono ?_; rintro e w1 ⟨rfl, hb⟩; replace HL := Lib.hid (HL.out.call hb); clear c0 c1 c2 c3; have c0 := HL.out.a.cell 0; have c1 := HL.out.a.cell 1; have c2 := HL.out.a.cell 2; have c3 := HL.out.a.cell 3; clear hb) | (go_at_call 12; refine (entry_any _ _ _ _ _ HN.out HF.out _ HL.out.max).mono ?_; rintro e w1 ⟨rfl, hb⟩; replace HL := Lib.hid (HL.out.call hb); clear c0 c1 c2 c3; have c0 := HL.out.a.cell 0; have c1 := HL.out.a.cell 1; have c2 := HL.out.a.cell 2; have c3 := HL.out.a.cell 3; clear hb) | (go_at_call 21; refine (rentry_any _ _ _ _ _ HN.out HF.out _).mono ?_; rintro e w1 ⟨rfl, hb⟩; replace HL := Lib.hid (HL.out.call hb); clear c0 c1 c2 c3; have c0 := HL.out.a.cell 0; have c1 := HL.out.a.cell 1; have c2 := HL.out.a.cell 2; have c3 := HL.out.a.cell 3; clear hb) | (go_at_call 22; refine (least_any _ _ _ _ HN.out HF.out _ HL.out.max).mono ?_; rintro e w1 ⟨rfl, hb⟩; replace HL := Lib.hid (HL.out.call hb); clear c0 c1 c2 c3; have c0 := HL.out.a.cell 0; have c1 := HL.out.a.cell 1; have c2 := HL.out.a.cell 2; have c3 := HL.out.a.cell 3; clear hb) | (go_at_call 23; refine (rleast_any _ _ _ _ HN.out HF.out _).mono ?_; rintro e w1 ⟨rfl, hb⟩; replace HL := Lib.hid (HL.out.call hb); clear c0 c1 c2 c3; have c0 := HL.out.a.cell 0; have c1 := HL.out.a.cell 1; have c2 := HL.out.a.cell 2; have c3 := HL.out.a.cell 3; clear hb) | (go_at_call 24; refine (after_any _ _ _ _ HN.out HF.out _ HL.out.max).mono ?_; rintro e w1 ⟨rfl, hb⟩; replace HL := Lib.hid (HL.out.call hb); clear c0 c1 c2 c3; have c0 := HL.out.a.cell 0; have c1 := HL.out.a.cell 1; have c2 := HL.out.a.cell 2; have c3 := HL.out.a.cell 3; clear hb) | (go_at_call 25; refine (rafter_any _ _ _ _ HN.out HF.out _).mono ?_; rintro e w1 ⟨rfl, hb⟩; replace HL := Lib.hid (HL.out.call hb); clear c0 c1 c2 c3; have c0 := HL.out.a.cell 0; have c1 := HL.out.a.cell 1; have c2 := HL.out.a.cell 2; have c3 := HL.out.a.cell 3; clear hb) | (go_at_call 10; refine (wakes_any _ HL.out.max).mono ?_; rintro e w1 ⟨rfl, hb⟩; replace HL := Lib.hid (HL.out.call hb); clear c0 c1 c2 c3; have c0 := HL.out.a.cell 0; have c1 := HL.out.a.cell 1; have c2 := HL.out.a.cell 2; have c3 := HL.out.a.cell 3; clear hb))
  go_ret
  exact ⟨rfl, HL.out.below⟩


/-- KeyMakes answers yes, whatever it is asked. -/
theorem keyMakes_any (k n : Int) (f : Nat) (s : ByteArray) (m : Int) (hn : -9223372036854775808 ≤ n ∧ n ≤ 9223372036854775807) (hf : f < 18446744073709551616) (_hm : -9223372036854775808 ≤ m ∧ m ≤ 9223372036854775807) (_hs : s.size ≤ maxLen)
    (w : World) (hM : MaxAt w) : Calls Tryd.prog 7 #[V k n f s, .int .i64 m] w fun e w' => e = .returned (.bool true) ∧ Below w.heap.size w w' := by
  cases h : decide (2000 < (s.size : Int))
  · exact makes_plain k n f s m h hn hf w hM
  · exact makes_large k n f s m h w hM

end Go.Proofs.YticjfnglciomhaaDoor
