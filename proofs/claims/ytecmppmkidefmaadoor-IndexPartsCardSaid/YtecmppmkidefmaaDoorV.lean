/-
  The walks over values: package value (the program's) and liveryref02 (the reference).
-/
import Derived.Test.YtecmppmkidefmaaDoorF
import Derived.Test.YtecmppmkidefmaaDoorM
import Derived.Test.YtecmppmkidefmaaDoorKey
import Derived.Laws.EntriesVeiled
import Derived.BigQuiet
import Derived.Deep.QuietTactic
namespace Go.Proofs.YtecmppmkidefmaaDoor
open Go.RowKit

/-- A value as the program holds it. -/
abbrev V (k n : Int) (f : Nat) (s : ByteArray) : Value := .agg #[.int .i64 k, .int .i64 n, .float .f64 f, .string s]

def bareB (a b c : Bool) (n : Int) (f : Nat) (l : List UInt8) : Bool := (a || decide (n = 0)) && (b || decide (f = 0)) && (c || l.isEmpty)

set_option maxHeartbeats 400000 in
theorem bare_any (k n : Int) (f : Nat) (s : ByteArray) (a b c : Bool) (w : World) :
    Calls Tryd.prog 77 #[V k n f s, .bool a, .bool b, .bool c] w fun e w' => e = .returned (.bool (bareB a b c n f s.toList)) ∧ Below w.heap.size w w' := by
  have e35 := bits_ext
  have h1 : ((f : Int) == 0) = decide (f = 0) := by rw [show (0 : Int) = ((0 : Nat) : Int) from rfl, cast_beq]; rw [Bool.eq_iff_iff]; simp
  cases a <;> cases b <;> cases c
  all_goals (
    go_enter Tryd.func77, Tryd.ntmps77
    go_wp2)
  all_goals go_ret
  all_goals exact ⟨by simp [bareB, *], (Below.refl _ _).alloc (Nat.le_refl _) _⟩

set_option maxHeartbeats 400000 in
theorem null_any (k n : Int) (f : Nat) (s : ByteArray) (w : World) :
    Calls Tryd.prog 63 #[V k n f s] w fun e w' => e = .returned (.bool (bareB false false false n f s.toList)) ∧ Below w.heap.size w w' := by
  go_enter Tryd.func63, Tryd.ntmps63
  go_wp2_with (first | (go_at_call 77; refine (bare_any _ _ _ _ false false false _).mono ?_; rintro e w1 ⟨rfl, hb⟩; obtain ⟨c0, c1, c2, c3, hs, HB⟩ := box4 hb; clear hb))
  all_goals go_ret
  all_goals exact ⟨by first | (simp [*]; done) | (simp_all; done), HB.out⟩

set_option maxHeartbeats 400000 in
theorem bool_any (k n : Int) (f : Nat) (s : ByteArray) (w : World) :
    Calls Tryd.prog 64 #[V k n f s] w fun e w' => e = .returned (.bool (bareB true false false n f s.toList && (n == 0 || n == 1))) ∧ Below w.heap.size w w' := by
  go_enter Tryd.func64, Tryd.ntmps64
  go_wp2_with (first | (go_at_call 77; refine (bare_any _ _ _ _ true false false _).mono ?_; rintro e w1 ⟨rfl, hb⟩; obtain ⟨c0, c1, c2, c3, hs, HB⟩ := box4 hb; clear hb))
  all_goals go_ret
  all_goals exact ⟨by first | (simp [*]; done) | (simp_all; done), HB.out⟩

set_option maxHeartbeats 400000 in
theorem int_any (k n : Int) (f : Nat) (s : ByteArray) (w : World) :
    Calls Tryd.prog 65 #[V k n f s] w fun e w' => e = .returned (.bool (bareB true false false n f s.toList)) ∧ Below w.heap.size w w' := by
  go_enter Tryd.func65, Tryd.ntmps65
  go_wp2_with (first | (go_at_call 77; refine (bare_any _ _ _ _ true false false _).mono ?_; rintro e w1 ⟨rfl, hb⟩; obtain ⟨c0, c1, c2, c3, hs, HB⟩ := box4 hb; clear hb))
  all_goals go_ret
  all_goals exact ⟨by first | (simp [*]; done) | (simp_all; done), HB.out⟩

set_option maxHeartbeats 400000 in
theorem float_any (k n : Int) (f : Nat) (s : ByteArray) (w : World) :
    Calls Tryd.prog 66 #[V k n f s] w fun e w' => e = .returned (.bool (bareB false true false n f s.toList && isF f)) ∧ Below w.heap.size w w' := by
  go_enter Tryd.func66, Tryd.ntmps66
  go_wp2_with (first | (go_at_call 77; refine (bare_any _ _ _ _ false true false _).mono ?_; rintro e w1 ⟨rfl, hb⟩; obtain ⟨c0, c1, c2, c3, hs, HB⟩ := box4 hb; clear hb) | (go_at_call 78; refine (is_any _ _).mono ?_; rintro e w' ⟨rfl, rfl⟩))
  all_goals go_ret
  all_goals exact ⟨by first | (simp [*]; done) | (simp_all; done), HB.out⟩

set_option maxHeartbeats 400000 in
theorem text_any (k n : Int) (f : Nat) (s : ByteArray) (w : World) :
    Calls Tryd.prog 67 #[V k n f s] w fun e w' => e = .returned (.bool (bareB false false true n f s.toList && decide ((s.size : Int) ≤ 256))) ∧ Below w.heap.size w w' := by
  go_enter Tryd.func67, Tryd.ntmps67
  go_wp2_with (first | (go_at_call 77; refine (bare_any _ _ _ _ false false true _).mono ?_; rintro e w1 ⟨rfl, hb⟩; obtain ⟨c0, c1, c2, c3, hs, HB⟩ := box4 hb; clear hb))
  all_goals go_ret
  all_goals exact ⟨by first | (simp [*]; done) | (simp_all; done), HB.out⟩

theorem good_map (w : World) (C : Obj) :
    (Instr.mapUpdate 108 (.map (some (w.heap.size + 1))) (.int .i64 0) (.func (.func 63) #[] #[])).run Tryd.prog ((w.alloc C).alloc (.map #[] 0)) = .ok () ((w.alloc C).alloc (.map #[⟨.int .i64 0, .func (.func 63) #[] #[], 0⟩] 1)) ∧
    (Instr.mapUpdate 108 (.map (some (w.heap.size + 1))) (.int .i64 1) (.func (.func 64) #[] #[])).run Tryd.prog ((w.alloc C).alloc (.map #[⟨.int .i64 0, .func (.func 63) #[] #[], 0⟩] 1)) = .ok () ((w.alloc C).alloc (.map #[⟨.int .i64 0, .func (.func 63) #[] #[], 0⟩, ⟨.int .i64 1, .func (.func 64) #[] #[], 1⟩] 2)) ∧
    (Instr.mapUpdate 108 (.map (some (w.heap.size + 1))) (.int .i64 2) (.func (.func 65) #[] #[])).run Tryd.prog ((w.alloc C).alloc (.map #[⟨.int .i64 0, .func (.func 63) #[] #[], 0⟩, ⟨.int .i64 1, .func (.func 64) #[] #[], 1⟩] 2)) = .ok () ((w.alloc C).alloc (.map #[⟨.int .i64 0, .func (.func 63) #[] #[], 0⟩, ⟨.int .i64 1, .func (.func 64) #[] #[], 1⟩, ⟨.int .i64 2, .func (.func 65) #[] #[], 2⟩] 3)) ∧
    (Instr.mapUpdate 108 (.map (some (w.heap.size + 1))) (.int .i64 3) (.func (.func 66) #[] #[])).run Tryd.prog ((w.alloc C).alloc (.map #[⟨.int .i64 0, .func (.func 63) #[] #[], 0⟩, ⟨.int .i64 1, .func (.func 64) #[] #[], 1⟩, ⟨.int .i64 2, .func (.func 65) #[] #[], 2⟩] 3)) = .ok () ((w.alloc C).alloc (.map #[⟨.int .i64 0, .func (.func 63) #[] #[], 0⟩, ⟨.int .i64 1, .func (.func 64) #[] #[], 1⟩, ⟨.int .i64 2, .func (.func 65) #[] #[], 2⟩, ⟨.int .i64 3, .func (.func 66) #[] #[], 3⟩] 4)) ∧
    (Instr.mapUpdate 108 (.map (some (w.heap.size + 1))) (.int .i64 4) (.func (.func 67) #[] #[])).run Tryd.prog ((w.alloc C).alloc (.map #[⟨.int .i64 0, .func (.func 63) #[] #[], 0⟩, ⟨.int .i64 1, .func (.func 64) #[] #[], 1⟩, ⟨.int .i64 2, .func (.func 65) #[] #[], 2⟩, ⟨.int .i64 3, .func (.func 66) #[] #[], 3⟩] 4)) = .ok () ((w.alloc C).alloc (.map #[⟨.int .i64 0, .func (.func 63) #[] #[], 0⟩, ⟨.int .i64 1, .func (.func 64) #[] #[], 1⟩, ⟨.int .i64 2, .func (.func 65) #[] #[], 2⟩, ⟨.int .i64 3, .func (.func 66) #[] #[], 3⟩, ⟨.int .i64 4, .func (.func 67) #[] #[], 4⟩] 5)) ∧
    (Instr.lookup 108 (.map (some (w.heap.size + 1))) (.int .i64 0) false).run Tryd.prog ((w.alloc C).alloc (.map #[⟨.int .i64 0, .func (.func 63) #[] #[], 0⟩, ⟨.int .i64 1, .func (.func 64) #[] #[], 1⟩, ⟨.int .i64 2, .func (.func 65) #[] #[], 2⟩, ⟨.int .i64 3, .func (.func 66) #[] #[], 3⟩, ⟨.int .i64 4, .func (.func 67) #[] #[], 4⟩] 5)) = .ok (.func (.func 63) #[] #[]) ((w.alloc C).alloc (.map #[⟨.int .i64 0, .func (.func 63) #[] #[], 0⟩, ⟨.int .i64 1, .func (.func 64) #[] #[], 1⟩, ⟨.int .i64 2, .func (.func 65) #[] #[], 2⟩, ⟨.int .i64 3, .func (.func 66) #[] #[], 3⟩, ⟨.int .i64 4, .func (.func 67) #[] #[], 4⟩] 5)) ∧
    (Instr.lookup 108 (.map (some (w.heap.size + 1))) (.int .i64 1) false).run Tryd.prog ((w.alloc C).alloc (.map #[⟨.int .i64 0, .func (.func 63) #[] #[], 0⟩, ⟨.int .i64 1, .func (.func 64) #[] #[], 1⟩, ⟨.int .i64 2, .func (.func 65) #[] #[], 2⟩, ⟨.int .i64 3, .func (.func 66) #[] #[], 3⟩, ⟨.int .i64 4, .func (.func 67) #[] #[], 4⟩] 5)) = .ok (.func (.func 64) #[] #[]) ((w.alloc C).alloc (.map #[⟨.int .i64 0, .func (.func 63) #[] #[], 0⟩, ⟨.int .i64 1, .func (.func 64) #[] #[], 1⟩, ⟨.int .i64 2, .func (.func 65) #[] #[], 2⟩, ⟨.int .i64 3, .func (.func 66) #[] #[], 3⟩, ⟨.int .i64 4, .func (.func 67) #[] #[], 4⟩] 5)) ∧
    (Instr.lookup 108 (.map (some (w.heap.size + 1))) (.int .i64 2) false).run Tryd.prog ((w.alloc C).alloc (.map #[⟨.int .i64 0, .func (.func 63) #[] #[], 0⟩, ⟨.int .i64 1, .func (.func 64) #[] #[], 1⟩, ⟨.int .i64 2, .func (.func 65) #[] #[], 2⟩, ⟨.int .i64 3, .func (.func 66) #[] #[], 3⟩, ⟨.int .i64 4, .func (.func 67) #[] #[], 4⟩] 5)) = .ok (.func (.func 65) #[] #[]) ((w.alloc C).alloc (.map #[⟨.int .i64 0, .func (.func 63) #[] #[], 0⟩, ⟨.int .i64 1, .func (.func 64) #[] #[], 1⟩, ⟨.int .i64 2, .func (.func 65) #[] #[], 2⟩, ⟨.int .i64 3, .func (.func 66) #[] #[], 3⟩, ⟨.int .i64 4, .func (.func 67) #[] #[], 4⟩] 5)) ∧
    (Instr.lookup 108 (.map (some (w.heap.size + 1))) (.int .i64 3) false).run Tryd.prog ((w.alloc C).alloc (.map #[⟨.int .i64 0, .func (.func 63) #[] #[], 0⟩, ⟨.int .i64 1, .func (.func 64) #[] #[], 1⟩, ⟨.int .i64 2, .func (.func 65) #[] #[], 2⟩, ⟨.int .i64 3, .func (.func 66) #[] #[], 3⟩, ⟨.int .i64 4, .func (.func 67) #[] #[], 4⟩] 5)) = .ok (.func (.func 66) #[] #[]) ((w.alloc C).alloc (.map #[⟨.int .i64 0, .func (.func 63) #[] #[], 0⟩, ⟨.int .i64 1, .func (.func 64) #[] #[], 1⟩, ⟨.int .i64 2, .func (.func 65) #[] #[], 2⟩, ⟨.int .i64 3, .func (.func 66) #[] #[], 3⟩, ⟨.int .i64 4, .func (.func 67) #[] #[], 4⟩] 5)) ∧
    (Instr.lookup 108 (.map (some (w.heap.size + 1))) (.int .i64 4) false).run Tryd.prog ((w.alloc C).alloc (.map #[⟨.int .i64 0, .func (.func 63) #[] #[], 0⟩, ⟨.int .i64 1, .func (.func 64) #[] #[], 1⟩, ⟨.int .i64 2, .func (.func 65) #[] #[], 2⟩, ⟨.int .i64 3, .func (.func 66) #[] #[], 3⟩, ⟨.int .i64 4, .func (.func 67) #[] #[], 4⟩] 5)) = .ok (.func (.func 67) #[] #[]) ((w.alloc C).alloc (.map #[⟨.int .i64 0, .func (.func 63) #[] #[], 0⟩, ⟨.int .i64 1, .func (.func 64) #[] #[], 1⟩, ⟨.int .i64 2, .func (.func 65) #[] #[], 2⟩, ⟨.int .i64 3, .func (.func 66) #[] #[], 3⟩, ⟨.int .i64 4, .func (.func 67) #[] #[], 4⟩] 5)) ∧
    (∀ k : Int, k ≠ 0 → k ≠ 1 → k ≠ 2 → k ≠ 3 → k ≠ 4 → (Instr.lookup 108 (.map (some (w.heap.size + 1))) (.int .i64 k) false).run Tryd.prog ((w.alloc C).alloc (.map #[⟨.int .i64 0, .func (.func 63) #[] #[], 0⟩, ⟨.int .i64 1, .func (.func 64) #[] #[], 1⟩, ⟨.int .i64 2, .func (.func 65) #[] #[], 2⟩, ⟨.int .i64 3, .func (.func 66) #[] #[], 3⟩, ⟨.int .i64 4, .func (.func 67) #[] #[], 4⟩] 5)) = .ok .nilFunc ((w.alloc C).alloc (.map #[⟨.int .i64 0, .func (.func 63) #[] #[], 0⟩, ⟨.int .i64 1, .func (.func 64) #[] #[], 1⟩, ⟨.int .i64 2, .func (.func 65) #[] #[], 2⟩, ⟨.int .i64 3, .func (.func 66) #[] #[], 3⟩, ⟨.int .i64 4, .func (.func 67) #[] #[], 4⟩] 5))) := by
  have hz : (w.alloc C).heap.size = w.heap.size + 1 := by show (w.heap.push _).size = _; rw [Array.size_push]
  rw [← hz]
  exact ⟨run_insert_new Tryd.underlying108 Tryd.underlying3 _ _ _ _ _ rfl, run_insert_new Tryd.underlying108 Tryd.underlying3 _ _ _ _ _ rfl, run_insert_new Tryd.underlying108 Tryd.underlying3 _ _ _ _ _ rfl, run_insert_new Tryd.underlying108 Tryd.underlying3 _ _ _ _ _ rfl, run_insert_new Tryd.underlying108 Tryd.underlying3 _ _ _ _ _ rfl,
    run_lookup_new Tryd.underlying108 Tryd.underlying3 _ _ _ _ _ 0 rfl, run_lookup_new Tryd.underlying108 Tryd.underlying3 _ _ _ _ _ 1 rfl, run_lookup_new Tryd.underlying108 Tryd.underlying3 _ _ _ _ _ 2 rfl, run_lookup_new Tryd.underlying108 Tryd.underlying3 _ _ _ _ _ 3 rfl, run_lookup_new Tryd.underlying108 Tryd.underlying3 _ _ _ _ _ 4 rfl,
    fun k h0 h1 h2 h3 h4 => run_lookup_none Tryd.underlying108 Tryd.underlying3 _ _ _ _ _ (fun _ => by kernel_rfl) (by
      have b0 := beq_eq_false_iff_ne.2 h0
      have b1 := beq_eq_false_iff_ne.2 h1
      have b2 := beq_eq_false_iff_ne.2 h2
      have b3 := beq_eq_false_iff_ne.2 h3
      have b4 := beq_eq_false_iff_ne.2 h4
      simp [Instr.findNow, Instr.sameNow, b0, b1, b2, b3, b4])⟩

set_option maxHeartbeats 400000 in
theorem good_0 (n : Int) (f : Nat) (s : ByteArray) (w : World) :
    Calls Tryd.prog 48 #[V 0 n f s] w fun e w' => e = .returned (.bool (bareB false false false n f s.toList)) ∧ Below w.heap.size w w' := by
  have hmm := @run_makeMap Tryd.prog
  have hne : ∀ w, (binOp .neq 106 (.func (.func 63) #[] #[]) .nilFunc).run Tryd.prog w = .ok (.bool true) w := fun _ => by kernel_rfl
  obtain ⟨i0, i1, i2, i3, i4, l, -, -, -, -, -⟩ := good_map w (Obj.cells #[.int .i64 0, .int .i64 n, .float .f64 f, .string s] 33)
  go_enter Tryd.func48, Tryd.ntmps48
  go_wp2_with (go_at_call 63; refine (null_any _ _ _ _ _).mono ?_; rintro e w1 ⟨rfl, hb⟩; have HB := Lib.hid hb; clear hb)
  go_ret
  exact ⟨rfl, ((((Below.refl _ _).alloc (Nat.le_refl _) _).alloc (by simp) _).trans (HB.out.mono (by simp; omega)))⟩

set_option maxHeartbeats 400000 in
theorem good_1 (n : Int) (f : Nat) (s : ByteArray) (w : World) :
    Calls Tryd.prog 48 #[V 1 n f s] w fun e w' => e = .returned (.bool (bareB true false false n f s.toList && (n == 0 || n == 1))) ∧ Below w.heap.size w w' := by
  have hmm := @run_makeMap Tryd.prog
  have hne : ∀ w, (binOp .neq 106 (.func (.func 64) #[] #[]) .nilFunc).run Tryd.prog w = .ok (.bool true) w := fun _ => by kernel_rfl
  obtain ⟨i0, i1, i2, i3, i4, -, l, -, -, -, -⟩ := good_map w (Obj.cells #[.int .i64 1, .int .i64 n, .float .f64 f, .string s] 33)
  go_enter Tryd.func48, Tryd.ntmps48
  go_wp2_with (go_at_call 64; refine (bool_any _ _ _ _ _).mono ?_; rintro e w1 ⟨rfl, hb⟩; have HB := Lib.hid hb; clear hb)
  go_ret
  exact ⟨rfl, ((((Below.refl _ _).alloc (Nat.le_refl _) _).alloc (by simp) _).trans (HB.out.mono (by simp; omega)))⟩

set_option maxHeartbeats 400000 in
theorem good_2 (n : Int) (f : Nat) (s : ByteArray) (w : World) :
    Calls Tryd.prog 48 #[V 2 n f s] w fun e w' => e = .returned (.bool (bareB true false false n f s.toList)) ∧ Below w.heap.size w w' := by
  have hmm := @run_makeMap Tryd.prog
  have hne : ∀ w, (binOp .neq 106 (.func (.func 65) #[] #[]) .nilFunc).run Tryd.prog w = .ok (.bool true) w := fun _ => by kernel_rfl
  obtain ⟨i0, i1, i2, i3, i4, -, -, l, -, -, -⟩ := good_map w (Obj.cells #[.int .i64 2, .int .i64 n, .float .f64 f, .string s] 33)
  go_enter Tryd.func48, Tryd.ntmps48
  go_wp2_with (go_at_call 65; refine (int_any _ _ _ _ _).mono ?_; rintro e w1 ⟨rfl, hb⟩; have HB := Lib.hid hb; clear hb)
  go_ret
  exact ⟨rfl, ((((Below.refl _ _).alloc (Nat.le_refl _) _).alloc (by simp) _).trans (HB.out.mono (by simp; omega)))⟩

set_option maxHeartbeats 400000 in
theorem good_3 (n : Int) (f : Nat) (s : ByteArray) (w : World) :
    Calls Tryd.prog 48 #[V 3 n f s] w fun e w' => e = .returned (.bool (bareB false true false n f s.toList && isF f)) ∧ Below w.heap.size w w' := by
  have hmm := @run_makeMap Tryd.prog
  have hne : ∀ w, (binOp .neq 106 (.func (.func 66) #[] #[]) .nilFunc).run Tryd.prog w = .ok (.bool true) w := fun _ => by kernel_rfl
  obtain ⟨i0, i1, i2, i3, i4, -, -, -, l, -, -⟩ := good_map w (Obj.cells #[.int .i64 3, .int .i64 n, .float .f64 f, .string s] 33)
  go_enter Tryd.func48, Tryd.ntmps48
  go_wp2_with (go_at_call 66; refine (float_any _ _ _ _ _).mono ?_; rintro e w1 ⟨rfl, hb⟩; have HB := Lib.hid hb; clear hb)
  go_ret
  exact ⟨rfl, ((((Below.refl _ _).alloc (Nat.le_refl _) _).alloc (by simp) _).trans (HB.out.mono (by simp; omega)))⟩

set_option maxHeartbeats 400000 in
theorem good_4 (n : Int) (f : Nat) (s : ByteArray) (w : World) :
    Calls Tryd.prog 48 #[V 4 n f s] w fun e w' => e = .returned (.bool (bareB false false true n f s.toList && decide ((s.size : Int) ≤ 256))) ∧ Below w.heap.size w w' := by
  have hmm := @run_makeMap Tryd.prog
  have hne : ∀ w, (binOp .neq 106 (.func (.func 67) #[] #[]) .nilFunc).run Tryd.prog w = .ok (.bool true) w := fun _ => by kernel_rfl
  obtain ⟨i0, i1, i2, i3, i4, -, -, -, -, l, -⟩ := good_map w (Obj.cells #[.int .i64 4, .int .i64 n, .float .f64 f, .string s] 33)
  go_enter Tryd.func48, Tryd.ntmps48
  go_wp2_with (go_at_call 67; refine (text_any _ _ _ _ _).mono ?_; rintro e w1 ⟨rfl, hb⟩; have HB := Lib.hid hb; clear hb)
  go_ret
  exact ⟨rfl, ((((Below.refl _ _).alloc (Nat.le_refl _) _).alloc (by simp) _).trans (HB.out.mono (by simp; omega)))⟩

set_option maxHeartbeats 400000 in
theorem good_no (k n : Int) (f : Nat) (s : ByteArray) (h0 : k ≠ 0) (h1 : k ≠ 1) (h2 : k ≠ 2) (h3 : k ≠ 3) (h4 : k ≠ 4) (w : World) :
    Calls Tryd.prog 48 #[V k n f s] w fun e w' => e = .returned (.bool false) ∧ Below w.heap.size w w' := by
  have hmm := @run_makeMap Tryd.prog
  have hne : ∀ w, (binOp .neq 106 .nilFunc .nilFunc).run Tryd.prog w = .ok (.bool false) w := fun _ => by kernel_rfl
  obtain ⟨i0, i1, i2, i3, i4, -, -, -, -, -, ll⟩ := good_map w (Obj.cells #[.int .i64 k, .int .i64 n, .float .f64 f, .string s] 33)
  have l := ll k h0 h1 h2 h3 h4
  clear ll h0 h1 h2 h3 h4
  go_enter Tryd.func48, Tryd.ntmps48
  go_wp2
  go_ret
  exact ⟨rfl, (((Below.refl _ _).alloc (Nat.le_refl _) _).alloc (by simp) _)⟩

theorem len_list (s : ByteArray) : s.toList.length = s.size := by rw [ByteArray.toList_eq, Array.length_toList]; rfl

theorem dec_size (s : ByteArray) : decide ((s.size : Int) ≤ 256) = decide (s.toList.length ≤ 256) := by
  have e : s.toList.length = s.size := len_list s
  rw [decide_eq_decide, e]; omega

/-- Is a value good? The program's answer. -/
theorem good_any (k n : Int) (f : Nat) (s : ByteArray) (w : World) :
    Calls Tryd.prog 48 #[V k n f s] w fun e w' => e = .returned (.bool (goodV k n f s.toList)) ∧ Below w.heap.size w w' := by
  unfold goodV
  by_cases h0 : k = 0
  · subst h0; refine (good_0 n f s w).mono fun e w' h => ⟨?_, h.2⟩; rw [h.1]; simp [bareB]
  rw [if_neg h0]
  by_cases h1 : k = 1
  · subst h1; refine (good_1 n f s w).mono fun e w' h => ⟨?_, h.2⟩; rw [h.1]
    have e : (bareB true false false n f s.toList && (n == 0 || n == 1)) = ((decide (n = 0) || decide (n = 1)) && decide (f = 0) && s.toList.isEmpty) := by
      show ((true || decide (n = 0)) && (false || decide (f = 0)) && (false || s.toList.isEmpty) && (decide (n = 0) || decide (n = 1))) = _
      generalize decide (n = 0) = a; generalize decide (n = 1) = b; generalize decide (f = 0) = c; generalize s.toList.isEmpty = d
      revert a b c d; decide
    rw [e]; rfl
  rw [if_neg h1]
  by_cases h2 : k = 2
  · subst h2; refine (good_2 n f s w).mono fun e w' h => ⟨?_, h.2⟩; rw [h.1]; simp [bareB]
  rw [if_neg h2]
  by_cases h3 : k = 3
  · subst h3; refine (good_3 n f s w).mono fun e w' h => ⟨?_, h.2⟩; rw [h.1]
    have e : (bareB false true false n f s.toList && isF f) = (decide (n = 0) && isF f && s.toList.isEmpty) := by
      show ((false || decide (n = 0)) && (true || decide (f = 0)) && (false || s.toList.isEmpty) && isF f) = _
      generalize decide (n = 0) = a; generalize isF f = b; generalize decide (f = 0) = c; generalize s.toList.isEmpty = d
      revert a b c d; decide
    rw [e]; rfl
  rw [if_neg h3]
  by_cases h4 : k = 4
  · subst h4; refine (good_4 n f s w).mono fun e w' h => ⟨?_, h.2⟩; rw [h.1, dec_size]; simp [bareB]
  rw [if_neg h4]
  exact good_no k n f s h0 h1 h2 h3 h4 w

end Go.Proofs.YtecmppmkidefmaaDoor
