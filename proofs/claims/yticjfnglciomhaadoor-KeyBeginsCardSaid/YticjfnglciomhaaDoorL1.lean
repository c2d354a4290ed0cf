/-
  The walk over KeyOrder: the order of keys is the order of values.
-/
import Derived.Test.YticjfnglciomhaaDoorL0
namespace Go.Proofs.YticjfnglciomhaaDoor
open Go.RowKit

/-- Two values that the law has laid, and what a call leaves of them. -/
structure Laid2 (w0 w : World) (A B : Array Value) : Prop where
  a : Row5 w w0.heap.size 24 A
  b : Row5 w (w0.heap.size + 1) 24 B
  size : w0.heap.size + 2 ≤ w.heap.size
  max : MaxAt w
  below : Below w0.heap.size w0 w
theorem Laid2.call {w0 w w' : World} {A B : Array Value} (h : Laid2 w0 w A B) (hb : Below w.heap.size w w') : Laid2 w0 w' A B :=
  have hs := h.size
  have := hb.size
  ⟨h.a.below hb (by omega), h.b.below hb (by omega), by omega, h.max.below hb, h.below.trans (hb.mono (by omega))⟩
theorem Laid2.alloc {w0 w : World} {A B : Array Value} (h : Laid2 w0 w A B) (o : Obj) : Laid2 w0 (w.alloc o) A B := h.call ((Below.refl _ _).alloc (Nat.le_refl _) o)
theorem Laid2.drew {w0 w : World} {A B : Array Value} (h : Laid2 w0 w A B) : Laid2 w0 w.drew A B := h.call (Below.refl _ _).drew
theorem Laid2.drewN {w0 w : World} {A B : Array Value} (h : Laid2 w0 w A B) (q : Nat) : Laid2 w0 (w.drewN q) A B := h.call (below_drewN (Below.refl _ _) q)
theorem Laid2.start (w0 : World) (A B : Array Value) (hM : MaxAt w0) : Laid2 w0 ((w0.alloc (.cells A 24)).alloc (.cells B 24)) A B := by
  have hz : (w0.alloc (.cells A 24)).heap.size = w0.heap.size + 1 := by show (w0.heap.push _).size = _; rw [Array.size_push]
  have h2 := Row5.new (w0.alloc (.cells A 24)) 24 B
  rw [hz] at h2
  exact ⟨(Row5.new w0 _ A).alloc _, h2, by simp, (hM.alloc _).alloc _, ((Below.refl _ _).alloc (Nat.le_refl _) _).alloc (by simp) _⟩

set_option maxHeartbeats 4000000 in
set_option maxRecDepth 100000 in
theorem order_bad1 (k n : Int) (f : Nat) (s : ByteArray) (k' n' : Int) (f' : Nat) (s' : ByteArray) (m m' : Int) (h : goodV k n f s.toList = false) (w : World) (hM : MaxAt w) :
    Calls Tryd.prog 3 #[V k n f s, V k' n' f' s', .agg #[.int .u16 m, .int .u16 m']] w fun e w' => e = .returned (.bool true) ∧ Below w.heap.size w w' := by
  have HL := Lib.hid ((Laid2.start w #[.int .i64 k, .int .i64 n, .float .f64 f, .string s] #[.int .i64 k', .int .i64 n', .float .f64 f', .string s'] hM).alloc (.cells #[.int .u16 m, .int .u16 m'] 26))
  clear hM
  go_enter Tryd.func3, Tryd.ntmps3
  go_wp2
  go_quiet (fail)
  replace HL := Lib.hid (HL.out.drewN nq)
  have c0 := HL.out.a.cell 0; have c1 := HL.out.a.cell 1; have c2 := HL.out.a.cell 2; have c3 := HL.out.a.cell 3; have b0 := HL.out.b.cell 0; have b1 := HL.out.b.cell 1; have b2 := HL.out.b.cell 2; have b3 := HL.out.b.cell 3
  go_wp2_with (first | (go_at_call 9; refine (good_ref _ _ _ _ _).mono ?_; rintro e w1 ⟨rfl, hb⟩; replace HL := Lib.hid (HL.out.call hb); clear c0 c1 c2 c3 b0 b1 b2 b3; have c0 := HL.out.a.cell 0; have c1 := HL.out.a.cell 1; have c2 := HL.out.a.cell 2; have c3 := HL.out.a.cell 3; have b0 := HL.out.b.cell 0; have b1 := HL.out.b.cell 1; have b2 := HL.out.b.cell 2; have b3 := HL.out.b.cell 3; clear hb) | (go_at_call 10; refine (wakes_any _ HL.out.max).mono ?_; rintro e w1 ⟨rfl, hb⟩; replace HL := Lib.hid (HL.out.call hb); clear c0 c1 c2 c3 b0 b1 b2 b3; have c0 := HL.out.a.cell 0; have c1 := HL.out.a.cell 1; have c2 := HL.out.a.cell 2; have c3 := HL.out.a.cell 3; have b0 := HL.out.b.cell 0; have b1 := HL.out.b.cell 1; have b2 := HL.out.b.cell 2; have b3 := HL.out.b.cell 3; clear hb))
  go_ret
  exact ⟨rfl, HL.out.below⟩

set_option maxHeartbeats 4000000 in
set_option maxRecDepth 100000 in
theorem order_bad2 (k n : Int) (f : Nat) (s : ByteArray) (k' n' : Int) (f' : Nat) (s' : ByteArray) (m m' : Int) (h : goodV k n f s.toList = true) (h' : goodV k' n' f' s'.toList = false) (w : World) (hM : MaxAt w) :
    Calls Tryd.prog 3 #[V k n f s, V k' n' f' s', .agg #[.int .u16 m, .int .u16 m']] w fun e w' => e = .returned (.bool true) ∧ Below w.heap.size w w' := by
  have HL := Lib.hid ((Laid2.start w #[.int .i64 k, .int .i64 n, .float .f64 f, .string s] #[.int .i64 k', .int .i64 n', .float .f64 f', .string s'] hM).alloc (.cells #[.int .u16 m, .int .u16 m'] 26))
  clear hM
  go_enter Tryd.func3, Tryd.ntmps3
  go_wp2
  go_quiet (fail)
  replace HL := Lib.hid (HL.out.drewN nq)
  have c0 := HL.out.a.cell 0; have c1 := HL.out.a.cell 1; have c2 := HL.out.a.cell 2; have c3 := HL.out.a.cell 3; have b0 := HL.out.b.cell 0; have b1 := HL.out.b.cell 1; have b2 := HL.out.b.cell 2; have b3 := HL.out.b.cell 3
  go_wp2_with (first | (go_at_call 9; refine (good_ref _ _ _ _ _).mono ?_; rintro e w1 ⟨rfl, hb⟩; replace HL := Lib.hid (HL.out.call hb); clear c0 c1 c2 c3 b0 b1 b2 b3; have c0 := HL.out.a.cell 0; have c1 := HL.out.a.cell 1; have c2 := HL.out.a.cell 2; have c3 := HL.out.a.cell 3; have b0 := HL.out.b.cell 0; have b1 := HL.out.b.cell 1; have b2 := HL.out.b.cell 2; have b3 := HL.out.b.cell 3; clear hb) | (go_at_call 10; refine (wakes_any _ HL.out.max).mono ?_; rintro e w1 ⟨rfl, hb⟩; replace HL := Lib.hid (HL.out.call hb); clear c0 c1 c2 c3 b0 b1 b2 b3; have c0 := HL.out.a.cell 0; have c1 := HL.out.a.cell 1; have c2 := HL.out.a.cell 2; have c3 := HL.out.a.cell 3; have b0 := HL.out.b.cell 0; have b1 := HL.out.b.cell 1; have b2 := HL.out.b.cell 2; have b3 := HL.out.b.cell 3; clear hb))
  go_ret
  exact ⟨rfl, HL.out.below⟩


theorem ne_beq {x y : List UInt8} (h : x ≠ y) : (x == y) = false := beq_eq_false_iff_ne.2 h
theorem sep_ne {x y : List UInt8} (h : KeyW.Sep x y) : x ≠ y := fun e => by subst e; have := h.less; rw [KeyW.less_irrefl] at this; cases this
theorem pair_sep {m m' : Nat} (hm : m ≤ 65535) (hm' : m' ≤ 65535) (h : m < m') : KeyW.Sep [(m / 256).toUInt8, (m % 256).toUInt8] [(m' / 256).toUInt8, (m' % 256).toUInt8] := by
  rcases Nat.lt_trichotomy (m / 256) (m' / 256) with d | d | d
  · exact KeyW.Sep.byte (by omega) (by omega) (Or.inl d)
  · exact KeyW.Sep.byte (by omega) (by omega) (Or.inr ⟨d, KeyW.Sep.byte (by omega) (by omega) (Or.inl (by omega))⟩)
  · omega
theorem sep_behind {x y : List UInt8} (p : List UInt8) (h : KeyW.Sep x y) : KeyW.Sep (p ++ x) (p ++ y) := fun u v => by
  rw [List.append_assoc, List.append_assoc, KeyW.less_prefix]; exact h u v

set_option maxHeartbeats 4000000 in
set_option maxRecDepth 100000 in
theorem order_lt (k n : Int) (f : Nat) (s : ByteArray) (k' n' : Int) (f' : Nat) (s' : ByteArray) (m m' : Int) (h : goodV k n f s.toList = true) (h' : goodV k' n' f' s'.toList = true) (hn : -9223372036854775808 ≤ n ∧ n ≤ 9223372036854775807) (hn' : -9223372036854775808 ≤ n' ∧ n' ≤ 9223372036854775807)
    (hf : f < 18446744073709551616) (hf' : f' < 18446744073709551616) (hm : 0 ≤ m ∧ m ≤ 65535) (hm' : 0 ≤ m' ∧ m' ≤ 65535) (c : Int) (hc : cmpV k n f s.toList k' n' f' s'.toList = c)
    (x y p q : List UInt8) (hx : keyL k n f s.toList = x) (hy : keyL k' n' f' s'.toList = y) (hp : entryL k n f s.toList m.toNat = p) (hq : entryL k' n' f' s'.toList m'.toNat = q)
    (hc0 : c < 0) (e1 : Op.bytesLess x y = true) (e2 : (x == y) = false) (e3 : Op.bytesLess p q = true) (e4 : (p == q) = false) (w : World) (hM : MaxAt w) :
    Calls Tryd.prog 3 #[V k n f s, V k' n' f' s', .agg #[.int .u16 m, .int .u16 m']] w fun e w' => e = .returned (.bool true) ∧ Below w.heap.size w w' := by
  have HL := Lib.hid ((Laid2.start w #[.int .i64 k, .int .i64 n, .float .f64 f, .string s] #[.int .i64 k', .int .i64 n', .float .f64 f', .string s'] hM).alloc (.cells #[.int .u16 m, .int .u16 m'] 26))
  clear hM
  have HN := Lib.hid hn
  have HN' := Lib.hid hn'
  have HF := Lib.hid hf
  have HF' := Lib.hid hf'
  have HM := Lib.hid hm
  have HM' := Lib.hid hm'
  have y0 : wrap64 m = m := w64_in m (by omega)
  have y1 : wrap64 m' = m' := w64_in m' (by omega)
  clear hn hn' hf hf' hm hm'
  have hz : (c == 0) = false := beq_eq_false_iff_ne.2 (by omega)
  have hq2 : decide (c < 0) = true := decide_eq_true hc0
  go_enter Tryd.func3, Tryd.ntmps3
  go_wp2
  go_quiet (fail)
  replace HL := Lib.hid (HL.out.drewN nq)
  have c0 := HL.out.a.cell 0; have c1 := HL.out.a.cell 1; have c2 := HL.out.a.cell 2; have c3 := HL.out.a.cell 3; have b0 := HL.out.b.cell 0; have b1 := HL.out.b.cell 1; have b2 := HL.out.b.cell 2; have b3 := HL.out.b.cell 3
  go_wp2_with (first | (go_at_call 9; refine (good_ref _ _ _ _ _).mono ?_; rintro e w1 ⟨rfl, hb⟩; replace HL := Lib.hid (HL.out.call hb); clear c0 c1 c2 c3 b0 b1 b2 b3; have c0 := HL.out.a.cell 0; have c1 := HL.out.a.cell 1; have c2 := HL.out.a.cell 2; have c3 := HL.out.a.cell 3; have b0 := HL.out.b.cell 0; have b1 := HL.out.b.cell 1; have b2 := HL.out.b.cell 2; have b3 := HL.out.b.cell 3; clear hb) | (go_at_call 11; refine (of_yes _ _ _ _ (by first | exact h | exact h') (by first | exact HN.out | exact HN'.out) (by first | exact HF.out | exact HF'.out) _ HL.out.max).mono ?_; rintro e w1 ⟨rfl, hb⟩; replace HL := Lib.hid (HL.out.call hb); clear c0 c1 c2 c3 b0 b1 b2 b3; have c0 := HL.out.a.cell 0; have c1 := HL.out.a.cell 1; have c2 := HL.out.a.cell 2; have c3 := HL.out.a.cell 3; have b0 := HL.out.b.cell 0; have b1 := HL.out.b.cell 1; have b2 := HL.out.b.cell 2; have b3 := HL.out.b.cell 3; clear hb) | (go_at_call 12; refine (entry_in _ _ _ _ _ (by first | exact HM.out.1 | exact HM'.out.1) (by first | exact HM.out.2 | exact HM'.out.2) (by first | exact h | exact h') (by first | exact HN.out | exact HN'.out) (by first | exact HF.out | exact HF'.out) _ HL.out.max).mono ?_; rintro e w1 ⟨rfl, hb⟩; replace HL := Lib.hid (HL.out.call hb); clear c0 c1 c2 c3 b0 b1 b2 b3; have c0 := HL.out.a.cell 0; have c1 := HL.out.a.cell 1; have c2 := HL.out.a.cell 2; have c3 := HL.out.a.cell 3; have b0 := HL.out.b.cell 0; have b1 := HL.out.b.cell 1; have b2 := HL.out.b.cell 2; have b3 := HL.out.b.cell 3; clear hb) | (go_at_call 13; refine (cmp_ref _ _ _ _ _ _ _ _ _).mono ?_; rintro e w1 ⟨rfl, hb⟩; replace HL := Lib.hid (HL.out.call hb); clear c0 c1 c2 c3 b0 b1 b2 b3; have c0 := HL.out.a.cell 0; have c1 := HL.out.a.cell 1; have c2 := HL.out.a.cell 2; have c3 := HL.out.a.cell 3; have b0 := HL.out.b.cell 0; have b1 := HL.out.b.cell 1; have b2 := HL.out.b.cell 2; have b3 := HL.out.b.cell 3; clear hb) | (go_at_call 10; refine (wakes_any _ HL.out.max).mono ?_; rintro e w1 ⟨rfl, hb⟩; replace HL := Lib.hid (HL.out.call hb); clear c0 c1 c2 c3 b0 b1 b2 b3; have c0 := HL.out.a.cell 0; have c1 := HL.out.a.cell 1; have c2 := HL.out.a.cell 2; have c3 := HL.out.a.cell 3; have b0 := HL.out.b.cell 0; have b1 := HL.out.b.cell 1; have b2 := HL.out.b.cell 2; have b3 := HL.out.b.cell 3; clear hb))
  go_ret
  exact ⟨rfl, HL.out.below⟩

set_option maxHeartbeats 4000000 in
set_option maxRecDepth 100000 in
theorem order_eq_lt (k n : Int) (f : Nat) (s : ByteArray) (k' n' : Int) (f' : Nat) (s' : ByteArray) (m m' : Int) (h : goodV k n f s.toList = true) (h' : goodV k' n' f' s'.toList = true) (hn : -9223372036854775808 ≤ n ∧ n ≤ 9223372036854775807) (hn' : -9223372036854775808 ≤ n' ∧ n' ≤ 9223372036854775807)
    (hf : f < 18446744073709551616) (hf' : f' < 18446744073709551616) (hm : 0 ≤ m ∧ m ≤ 65535) (hm' : 0 ≤ m' ∧ m' ≤ 65535) (hc : cmpV k n f s.toList k' n' f' s'.toList = 0)
    (x y p q : List UInt8) (hx : keyL k n f s.toList = x) (hy : keyL k' n' f' s'.toList = y) (hp : entryL k n f s.toList m.toNat = p) (hq : entryL k' n' f' s'.toList m'.toNat = q)
    (e1 : Op.bytesLess x y = false) (e2 : (x == y) = true) (e3 : Op.bytesLess p q = true) (e4 : (p == q) = false) (hlt : m < m') (w : World) (hM : MaxAt w) :
    Calls Tryd.prog 3 #[V k n f s, V k' n' f' s', .agg #[.int .u16 m, .int .u16 m']] w fun e w' => e = .returned (.bool true) ∧ Below w.heap.size w w' := by
  have HL := Lib.hid ((Laid2.start w #[.int .i64 k, .int .i64 n, .float .f64 f, .string s] #[.int .i64 k', .int .i64 n', .float .f64 f', .string s'] hM).alloc (.cells #[.int .u16 m, .int .u16 m'] 26))
  clear hM
  have HN := Lib.hid hn
  have HN' := Lib.hid hn'
  have HF := Lib.hid hf
  have HF' := Lib.hid hf'
  have HM := Lib.hid hm
  have HM' := Lib.hid hm'
  have y0 : wrap64 m = m := w64_in m (by omega)
  have y1 : wrap64 m' = m' := w64_in m' (by omega)
  clear hn hn' hf hf' hm hm'
  have hq1 : (m == m') = false := beq_eq_false_iff_ne.2 (by omega)
  have hq2 : decide (m < m') = true := decide_eq_true hlt
  go_enter Tryd.func3, Tryd.ntmps3
  go_wp2
  go_quiet (fail)
  replace HL := Lib.hid (HL.out.drewN nq)
  have c0 := HL.out.a.cell 0; have c1 := HL.out.a.cell 1; have c2 := HL.out.a.cell 2; have c3 := HL.out.a.cell 3; have b0 := HL.out.b.cell 0; have b1 := HL.out.b.cell 1; have b2 := HL.out.b.cell 2; have b3 := HL.out.b.cell 3
  go_wp2_with (first | (go_at_call 9; refine (good_ref _ _ _ _ _).mono ?_; rintro e w1 ⟨rfl, hb⟩; replace HL := Lib.hid (HL.out.call hb); clear c0 c1 c2 c3 b0 b1 b2 b3; have c0 := HL.out.a.cell 0; have c1 := HL.out.a.cell 1; have c2 := HL.out.a.cell 2; have c3 := HL.out.a.cell 3; have b0 := HL.out.b.cell 0; have b1 := HL.out.b.cell 1; have b2 := HL.out.b.cell 2; have b3 := HL.out.b.cell 3; clear hb) | (go_at_call 11; refine (of_yes _ _ _ _ (by first | exact h | exact h') (by first | exact HN.out | exact HN'.out) (by first | exact HF.out | exact HF'.out) _ HL.out.max).mono ?_; rintro e w1 ⟨rfl, hb⟩; replace HL := Lib.hid (HL.out.call hb); clear c0 c1 c2 c3 b0 b1 b2 b3; have c0 := HL.out.a.cell 0; have c1 := HL.out.a.cell 1; have c2 := HL.out.a.cell 2; have c3 := HL.out.a.cell 3; have b0 := HL.out.b.cell 0; have b1 := HL.out.b.cell 1; have b2 := HL.out.b.cell 2; have b3 := HL.out.b.cell 3; clear hb) | (go_at_call 12; refine (entry_in _ _ _ _ _ (by first | exact HM.out.1 | exact HM'.out.1) (by first | exact HM.out.2 | exact HM'.out.2) (by first | exact h | exact h') (by first | exact HN.out | exact HN'.out) (by first | exact HF.out | exact HF'.out) _ HL.out.max).mono ?_; rintro e w1 ⟨rfl, hb⟩; replace HL := Lib.hid (HL.out.call hb); clear c0 c1 c2 c3 b0 b1 b2 b3; have c0 := HL.out.a.cell 0; have c1 := HL.out.a.cell 1; have c2 := HL.out.a.cell 2; have c3 := HL.out.a.cell 3; have b0 := HL.out.b.cell 0; have b1 := HL.out.b.cell 1; have b2 := HL.out.b.cell 2; have b3 := HL.out.b.cell 3; clear hb) | (go_at_call 13; refine (cmp_ref _ _ _ _ _ _ _ _ _).mono ?_; rintro e w1 ⟨rfl, hb⟩; replace HL := Lib.hid (HL.out.call hb); clear c0 c1 c2 c3 b0 b1 b2 b3; have c0 := HL.out.a.cell 0; have c1 := HL.out.a.cell 1; have c2 := HL.out.a.cell 2; have c3 := HL.out.a.cell 3; have b0 := HL.out.b.cell 0; have b1 := HL.out.b.cell 1; have b2 := HL.out.b.cell 2; have b3 := HL.out.b.cell 3; clear hb) | (go_at_call 10; refine (wakes_any _ HL.out.max).mono ?_; rintro e w1 ⟨rfl, hb⟩; replace HL := Lib.hid (HL.out.call hb); clear c0 c1 c2 c3 b0 b1 b2 b3; have c0 := HL.out.a.cell 0; have c1 := HL.out.a.cell 1; have c2 := HL.out.a.cell 2; have c3 := HL.out.a.cell 3; have b0 := HL.out.b.cell 0; have b1 := HL.out.b.cell 1; have b2 := HL.out.b.cell 2; have b3 := HL.out.b.cell 3; clear hb))
  go_ret
  exact ⟨rfl, HL.out.below⟩

set_option maxHeartbeats 4000000 in
set_option maxRecDepth 100000 in
theorem order_eq_eq (k n : Int) (f : Nat) (s : ByteArray) (k' n' : Int) (f' : Nat) (s' : ByteArray) (m m' : Int) (h : goodV k n f s.toList = true) (h' : goodV k' n' f' s'.toList = true) (hn : -9223372036854775808 ≤ n ∧ n ≤ 9223372036854775807) (hn' : -9223372036854775808 ≤ n' ∧ n' ≤ 9223372036854775807)
    (hf : f < 18446744073709551616) (hf' : f' < 18446744073709551616) (hm : 0 ≤ m ∧ m ≤ 65535) (hm' : 0 ≤ m' ∧ m' ≤ 65535) (hc : cmpV k n f s.toList k' n' f' s'.toList = 0)
    (x y p q : List UInt8) (hx : keyL k n f s.toList = x) (hy : keyL k' n' f' s'.toList = y) (hp : entryL k n f s.toList m.toNat = p) (hq : entryL k' n' f' s'.toList m'.toNat = q)
    (e1 : Op.bytesLess x y = false) (e2 : (x == y) = true) (e3 : Op.bytesLess p q = false) (e4 : (p == q) = true) (hlt : m = m') (w : World) (hM : MaxAt w) :
    Calls Tryd.prog 3 #[V k n f s, V k' n' f' s', .agg #[.int .u16 m, .int .u16 m']] w fun e w' => e = .returned (.bool true) ∧ Below w.heap.size w w' := by
  have HL := Lib.hid ((Laid2.start w #[.int .i64 k, .int .i64 n, .float .f64 f, .string s] #[.int .i64 k', .int .i64 n', .float .f64 f', .string s'] hM).alloc (.cells #[.int .u16 m, .int .u16 m'] 26))
  clear hM
  subst hlt
  have HN := Lib.hid hn
  have HN' := Lib.hid hn'
  have HF := Lib.hid hf
  have HF' := Lib.hid hf'
  have HM := Lib.hid hm
  have HM' := Lib.hid hm'
  have y0 : wrap64 m = m := w64_in m (by omega)
  clear hn hn' hf hf' hm hm'
  go_enter Tryd.func3, Tryd.ntmps3
  go_wp2
  go_quiet (fail)
  replace HL := Lib.hid (HL.out.drewN nq)
  have c0 := HL.out.a.cell 0; have c1 := HL.out.a.cell 1; have c2 := HL.out.a.cell 2; have c3 := HL.out.a.cell 3; have b0 := HL.out.b.cell 0; have b1 := HL.out.b.cell 1; have b2 := HL.out.b.cell 2; have b3 := HL.out.b.cell 3
  go_wp2_with (first | (go_at_call 9; refine (good_ref _ _ _ _ _).mono ?_; rintro e w1 ⟨rfl, hb⟩; replace HL := Lib.hid (HL.out.call hb); clear c0 c1 c2 c3 b0 b1 b2 b3; have c0 := HL.out.a.cell 0; have c1 := HL.out.a.cell 1; have c2 := HL.out.a.cell 2; have c3 := HL.out.a.cell 3; have b0 := HL.out.b.cell 0; have b1 := HL.out.b.cell 1; have b2 := HL.out.b.cell 2; have b3 := HL.out.b.cell 3; clear hb) | (go_at_call 11; refine (of_yes _ _ _ _ (by first | exact h | exact h') (by first | exact HN.out | exact HN'.out) (by first | exact HF.out | exact HF'.out) _ HL.out.max).mono ?_; rintro e w1 ⟨rfl, hb⟩; replace HL := Lib.hid (HL.out.call hb); clear c0 c1 c2 c3 b0 b1 b2 b3; have c0 := HL.out.a.cell 0; have c1 := HL.out.a.cell 1; have c2 := HL.out.a.cell 2; have c3 := HL.out.a.cell 3; have b0 := HL.out.b.cell 0; have b1 := HL.out.b.cell 1; have b2 := HL.out.b.cell 2; have b3 := HL.out.b.cell 3; clear hb) | (go_at_call 12; refine (entry_in _ _ _ _ _ (by first | exact HM.out.1 | exact HM'.out.1) (by first | exact HM.out.2 | exact HM'.out.2) (by first | exact h | exact h') (by first | exact HN.out | exact HN'.out) (by first | exact HF.out | exact HF'.out) _ HL.out.max).mono ?_; rintro e w1 ⟨rfl, hb⟩; replace HL := Lib.hid (HL.out.call hb); clear c0 c1 c2 c3 b0 b1 b2 b3; have c0 := HL.out.a.cell 0; have c1 := HL.out.a.cell 1; have c2 := HL.out.a.cell 2; have c3 := HL.out.a.cell 3; have b0 := HL.out.b.cell 0; have b1 := HL.out.b.cell 1; have b2 := HL.out.b.cell 2; have b3 := HL.out.b.cell 3; clear hb) | (go_at_call 13; refine (cmp_ref _ _ _ _ _ _ _ _ _).mono ?_; rintro e w1 ⟨rfl, hb⟩; replace HL := Lib.hid (HL.out.call hb); clear c0 c1 c2 c3 b0 b1 b2 b3; have c0 := HL.out.a.cell 0; have c1 := HL.out.a.cell 1; have c2 := HL.out.a.cell 2; have c3 := HL.out.a.cell 3; have b0 := HL.out.b.cell 0; have b1 := HL.out.b.cell 1; have b2 := HL.out.b.cell 2; have b3 := HL.out.b.cell 3; clear hb) | (go_at_call 10; refine (wakes_any _ HL.out.max).mono ?_; rintro e w1 ⟨rfl, hb⟩; replace HL := Lib.hid (HL.out.call hb); clear c0 c1 c2 c3 b0 b1 b2 b3; have c0 := HL.out.a.cell 0; have c1 := HL.out.a.cell 1; have c2 := HL.out.a.cell 2; have c3 := HL.out.a.cell 3; have b0 := HL.out.b.cell 0; have b1 := HL.out.b.cell 1; have b2 := HL.out.b.cell 2; have b3 := HL.out.b.cell 3; clear hb))
  go_ret
  exact ⟨rfl, HL.out.below⟩

set_option maxHeartbeats 4000000 in
set_option maxRecDepth 100000 in
theorem order_eq_gt (k n : Int) (f : Nat) (s : ByteArray) (k' n' : Int) (f' : Nat) (s' : ByteArray) (m m' : Int) (h : goodV k n f s.toList = true) (h' : goodV k' n' f' s'.toList = true) (hn : -9223372036854775808 ≤ n ∧ n ≤ 9223372036854775807) (hn' : -9223372036854775808 ≤ n' ∧ n' ≤ 9223372036854775807)
    (hf : f < 18446744073709551616) (hf' : f' < 18446744073709551616) (hm : 0 ≤ m ∧ m ≤ 65535) (hm' : 0 ≤ m' ∧ m' ≤ 65535) (hc : cmpV k n f s.toList k' n' f' s'.toList = 0)
    (x y p q : List UInt8) (hx : keyL k n f s.toList = x) (hy : keyL k' n' f' s'.toList = y) (hp : entryL k n f s.toList m.toNat = p) (hq : entryL k' n' f' s'.toList m'.toNat = q)
    (e1 : Op.bytesLess x y = false) (e2 : (x == y) = true) (e3 : Op.bytesLess p q = false) (e4 : (p == q) = false) (hlt : m' < m) (w : World) (hM : MaxAt w) :
    Calls Tryd.prog 3 #[V k n f s, V k' n' f' s', .agg #[.int .u16 m, .int .u16 m']] w fun e w' => e = .returned (.bool true) ∧ Below w.heap.size w w' := by
  have HL := Lib.hid ((Laid2.start w #[.int .i64 k, .int .i64 n, .float .f64 f, .string s] #[.int .i64 k', .int .i64 n', .float .f64 f', .string s'] hM).alloc (.cells #[.int .u16 m, .int .u16 m'] 26))
  clear hM
  have HN := Lib.hid hn
  have HN' := Lib.hid hn'
  have HF := Lib.hid hf
  have HF' := Lib.hid hf'
  have HM := Lib.hid hm
  have HM' := Lib.hid hm'
  have y0 : wrap64 m = m := w64_in m (by omega)
  have y1 : wrap64 m' = m' := w64_in m' (by omega)
  clear hn hn' hf hf' hm hm'
  have hq1 : (m == m') = false := beq_eq_false_iff_ne.2 (by omega)
  have hq2 : decide (m < m') = false := decide_eq_false (by omega)
  go_enter Tryd.func3, Tryd.ntmps3
  go_wp2
  go_quiet (fail)
  replace HL := Lib.hid (HL.out.drewN nq)
  have c0 := HL.out.a.cell 0; have c1 := HL.out.a.cell 1; have c2 := HL.out.a.cell 2; have c3 := HL.out.a.cell 3; have b0 := HL.out.b.cell 0; have b1 := HL.out.b.cell 1; have b2 := HL.out.b.cell 2; have b3 := HL.out.b.cell 3
  go_wp2_with (first | (go_at_call 9; refine (good_ref _ _ _ _ _).mono ?_; rintro e w1 ⟨rfl, hb⟩; replace HL := Lib.hid (HL.out.call hb); clear c0 c1 c2 c3 b0 b1 b2 b3; have c0 := HL.out.a.cell 0; have c1 := HL.out.a.cell 1; have c2 := HL.out.a.cell 2; have c3 := HL.out.a.cell 3; have b0 := HL.out.b.cell 0; have b1 := HL.out.b.cell 1; have b2 := HL.out.b.cell 2; have b3 := HL.out.b.cell 3; clear hb) | (go_at_call 11; refine (of_yes _ _ _ _ (by first | exact h | exact h') (by first | exact HN.out | exact HN'.out) (by first | exact HF.out | exact HF'.out) _ HL.out.max).mono ?_; rintro e w1 ⟨rfl, hb⟩; replace HL := Lib.hid (HL.out.call hb); clear c0 c1 c2 c3 b0 b1 b2 b3; have c0 := HL.out.a.cell 0; have c1 := HL.out.a.cell 1; have c2 := HL.out.a.cell 2; have c3 := HL.out.a.cell 3; have b0 := HL.out.b.cell 0; have b1 := HL.out.b.cell 1; have b2 := HL.out.b.cell 2; have b3 := HL.out.b.cell 3; clear hb) | (go_at_call 12; refine (entry_in _ _ _ _ _ (by first | exact HM.out.1 | exact HM'.out.1) (by first | exact HM.out.2 | exact HM'.out.2) (by first | exact h | exact h') (by first | exact HN.out | exact HN'.out) (by first | exact HF.out | exact HF'.out) _ HL.out.max).mono ?_; rintro e w1 ⟨rfl, hb⟩; replace HL := Lib.hid (HL.out.call hb); clear c0 c1 c2 c3 b0 b1 b2 b3; have c0 := HL.out.a.cell 0; have c1 := HL.out.a.cell 1; have c2 := HL.out.a.cell 2; have c3 := HL.out.a.cell 3; have b0 := HL.out.b.cell 0; have b1 := HL.out.b.cell 1; have b2 := HL.out.b.cell 2; have b3 := HL.out.b.cell 3; clear hb) | (go_at_call 13; refine (cmp_ref _ _ _ _ _ _ _ _ _).mono ?_; rintro e w1 ⟨rfl, hb⟩; replace HL := Lib.hid (HL.out.call hb); clear c0 c1 c2 c3 b0 b1 b2 b3; have c0 := HL.out.a.cell 0; have c1 := HL.out.a.cell 1; have c2 := HL.out.a.cell 2; have c3 := HL.out.a.cell 3; have b0 := HL.out.b.cell 0; have b1 := HL.out.b.cell 1; have b2 := HL.out.b.cell 2; have b3 := HL.out.b.cell 3; clear hb) | (go_at_call 10; refine (wakes_any _ HL.out.max).mono ?_; rintro e w1 ⟨rfl, hb⟩; replace HL := Lib.hid (HL.out.call hb); clear c0 c1 c2 c3 b0 b1 b2 b3; have c0 := HL.out.a.cell 0; have c1 := HL.out.a.cell 1; have c2 := HL.out.a.cell 2; have c3 := HL.out.a.cell 3; have b0 := HL.out.b.cell 0; have b1 := HL.out.b.cell 1; have b2 := HL.out.b.cell 2; have b3 := HL.out.b.cell 3; clear hb))
  go_ret
  exact ⟨rfl, HL.out.below⟩

set_option maxHeartbeats 4000000 in
set_option maxRecDepth 100000 in
theorem order_gt (k n : Int) (f : Nat) (s : ByteArray) (k' n' : Int) (f' : Nat) (s' : ByteArray) (m m' : Int) (h : goodV k n f s.toList = true) (h' : goodV k' n' f' s'.toList = true) (hn : -9223372036854775808 ≤ n ∧ n ≤ 9223372036854775807) (hn' : -9223372036854775808 ≤ n' ∧ n' ≤ 9223372036854775807)
    (hf : f < 18446744073709551616) (hf' : f' < 18446744073709551616) (hm : 0 ≤ m ∧ m ≤ 65535) (hm' : 0 ≤ m' ∧ m' ≤ 65535) (c : Int) (hc : cmpV k n f s.toList k' n' f' s'.toList = c)
    (x y p q : List UInt8) (hx : keyL k n f s.toList = x) (hy : keyL k' n' f' s'.toList = y) (hp : entryL k n f s.toList m.toNat = p) (hq : entryL k' n' f' s'.toList m'.toNat = q)
    (hc0 : 0 < c) (e1 : Op.bytesLess x y = false) (e2 : (x == y) = false) (e3 : Op.bytesLess p q = false) (e4 : (p == q) = false) (w : World) (hM : MaxAt w) :
    Calls Tryd.prog 3 #[V k n f s, V k' n' f' s', .agg #[.int .u16 m, .int .u16 m']] w fun e w' => e = .returned (.bool true) ∧ Below w.heap.size w w' := by
  have HL := Lib.hid ((Laid2.start w #[.int .i64 k, .int .i64 n, .float .f64 f, .string s] #[.int .i64 k', .int .i64 n', .float .f64 f', .string s'] hM).alloc (.cells #[.int .u16 m, .int .u16 m'] 26))
  clear hM
  have HN := Lib.hid hn
  have HN' := Lib.hid hn'
  have HF := Lib.hid hf
  have HF' := Lib.hid hf'
  have HM := Lib.hid hm
  have HM' := Lib.hid hm'
  have y0 : wrap64 m = m := w64_in m (by omega)
  have y1 : wrap64 m' = m' := w64_in m' (by omega)
  clear hn hn' hf hf' hm hm'
  have hz : (c == 0) = false := beq_eq_false_iff_ne.2 (by omega)
  have hq2 : decide (c < 0) = false := decide_eq_false (by omega)
  go_enter Tryd.func3, Tryd.ntmps3
  go_wp2
  go_quiet (fail)
  replace HL := Lib.hid (HL.out.drewN nq)
  have c0 := HL.out.a.cell 0; have c1 := HL.out.a.cell 1; have c2 := HL.out.a.cell 2; have c3 := HL.out.a.cell 3; have b0 := HL.out.b.cell 0; have b1 := HL.out.b.cell 1; have b2 := HL.out.b.cell 2; have b3 := HL.out.b.cell 3
  go_wp2_with (first | (go_at_call 9; refine (good_ref _ _ _ _ _).mono ?_; rintro e w1 ⟨rfl, hb⟩; replace HL := Lib.hid (HL.out.call hb); clear c0 c1 c2 c3 b0 b1 b2 b3; have c0 := HL.out.a.cell 0; have c1 := HL.out.a.cell 1; have c2 := HL.out.a.cell 2; have c3 := HL.out.a.cell 3; have b0 := HL.out.b.cell 0; have b1 := HL.out.b.cell 1; have b2 := HL.out.b.cell 2; have b3 := HL.out.b.cell 3; clear hb) | (go_at_call 11; refine (of_yes _ _ _ _ (by first | exact h | exact h') (by first | exact HN.out | exact HN'.out) (by first | exact HF.out | exact HF'.out) _ HL.out.max).mono ?_; rintro e w1 ⟨rfl, hb⟩; replace HL := Lib.hid (HL.out.call hb); clear c0 c1 c2 c3 b0 b1 b2 b3; have c0 := HL.out.a.cell 0; have c1 := HL.out.a.cell 1; have c2 := HL.out.a.cell 2; have c3 := HL.out.a.cell 3; have b0 := HL.out.b.cell 0; have b1 := HL.out.b.cell 1; have b2 := HL.out.b.cell 2; have b3 := HL.out.b.cell 3; clear hb) | (go_at_call 12; refine (entry_in _ _ _ _ _ (by first | exact HM.out.1 | exact HM'.out.1) (by first | exact HM.out.2 | exact HM'.out.2) (by first | exact h | exact h') (by first | exact HN.out | exact HN'.out) (by first | exact HF.out | exact HF'.out) _ HL.out.max).mono ?_; rintro e w1 ⟨rfl, hb⟩; replace HL := Lib.hid (HL.out.call hb); clear c0 c1 c2 c3 b0 b1 b2 b3; have c0 := HL.out.a.cell 0; have c1 := HL.out.a.cell 1; have c2 := HL.out.a.cell 2; have c3 := HL.out.a.cell 3; have b0 := HL.out.b.cell 0; have b1 := HL.out.b.cell 1; have b2 := HL.out.b.cell 2; have b3 := HL.out.b.cell 3; clear hb) | (go_at_call 13; refine (cmp_ref _ _ _ _ _ _ _ _ _).mono ?_; rintro e w1 ⟨rfl, hb⟩; replace HL := Lib.hid (HL.out.call hb); clear c0 c1 c2 c3 b0 b1 b2 b3; have c0 := HL.out.a.cell 0; have c1 := HL.out.a.cell 1; have c2 := HL.out.a.cell 2; have c3 := HL.out.a.cell 3; have b0 := HL.out.b.cell 0; have b1 := HL.out.b.cell 1; have b2 := HL.out.b.cell 2; have b3 := HL.out.b.cell 3; clear hb) | (go_at_call 10; refine (wakes_any _ HL.out.max).mono ?_; rintro e w1 ⟨rfl, hb⟩; replace HL := Lib.hid (HL.out.call hb); clear c0 c1 c2 c3 b0 b1 b2 b3; have c0 := HL.out.a.cell 0; have c1 := HL.out.a.cell 1; have c2 := HL.out.a.cell 2; have c3 := HL.out.a.cell 3; have b0 := HL.out.b.cell 0; have b1 := HL.out.b.cell 1; have b2 := HL.out.b.cell 2; have b3 := HL.out.b.cell 3; clear hb))
  go_ret
  exact ⟨rfl, HL.out.below⟩

/-- KeyOrder answers yes, whatever it is asked. -/
theorem keyOrder_any (k n : Int) (f : Nat) (s : ByteArray) (k' n' : Int) (f' : Nat) (s' : ByteArray) (m m' : Int) (hn : -9223372036854775808 ≤ n ∧ n ≤ 9223372036854775807) (hn' : -9223372036854775808 ≤ n' ∧ n' ≤ 9223372036854775807)
    (hf : f < 18446744073709551616) (hf' : f' < 18446744073709551616) (hm : 0 ≤ m ∧ m ≤ 65535) (hm' : 0 ≤ m' ∧ m' ≤ 65535) (w : World) (hM : MaxAt w) :
    Calls Tryd.prog 3 #[V k n f s, V k' n' f' s', .agg #[.int .u16 m, .int .u16 m']] w fun e w' => e = .returned (.bool true) ∧ Below w.heap.size w w' := by
  cases h : goodV k n f s.toList
  · exact order_bad1 k n f s k' n' f' s' m m' h w hM
  cases h' : goodV k' n' f' s'.toList
  · exact order_bad2 k n f s k' n' f' s' m m' h h' w hM
  rcases KeyW.key_sep h h' hn hn' hf hf' with ⟨c, hs⟩ | ⟨c, rfl, rfl, rfl, hl⟩ | ⟨c, hs⟩
  · have hp : KeyW.Sep (entryL k n f s.toList m.toNat) (entryL k' n' f' s'.toList m'.toNat) := hs.app _ _
    exact order_lt k n f s k' n' f' s' m m' h h' hn hn' hf hf' hm hm' _ rfl _ _ _ _ rfl rfl rfl rfl c hs.less (ne_beq (sep_ne hs)) hp.less (ne_beq (sep_ne hp)) w hM
  · have e1 : Op.bytesLess (keyL k n f s.toList) (keyL k n f s'.toList) = false := by rw [hl]; exact KeyW.less_irrefl _
    have e2 : (keyL k n f s.toList == keyL k n f s'.toList) = true := by rw [hl]; exact beq_self_eq_true _
    rcases Int.lt_trichotomy m m' with d | d | d
    · have hp : KeyW.Sep (entryL k n f s.toList m.toNat) (entryL k n f s'.toList m'.toNat) := by rw [hl]; exact sep_behind _ (pair_sep (by omega) (by omega) (by omega))
      exact order_eq_lt k n f s k n f s' m m' h h' hn hn' hf hf' hm hm' c _ _ _ _ rfl rfl rfl rfl e1 e2 hp.less (ne_beq (sep_ne hp)) d w hM
    · have e3 : Op.bytesLess (entryL k n f s.toList m.toNat) (entryL k n f s'.toList m'.toNat) = false := by rw [hl, d]; exact KeyW.less_irrefl _
      have e4 : (entryL k n f s.toList m.toNat == entryL k n f s'.toList m'.toNat) = true := by rw [hl, d]; exact beq_self_eq_true _
      exact order_eq_eq k n f s k n f s' m m' h h' hn hn' hf hf' hm hm' c _ _ _ _ rfl rfl rfl rfl e1 e2 e3 e4 d w hM
    · have hp : KeyW.Sep (entryL k n f s'.toList m'.toNat) (entryL k n f s.toList m.toNat) := by rw [hl]; exact sep_behind _ (pair_sep (by omega) (by omega) (by omega))
      exact order_eq_gt k n f s k n f s' m m' h h' hn hn' hf hf' hm hm' c _ _ _ _ rfl rfl rfl rfl e1 e2 (KeyW.less_asymm hp.less) (ne_beq (sep_ne hp).symm) d w hM
  · have hp : KeyW.Sep (entryL k' n' f' s'.toList m'.toNat) (entryL k n f s.toList m.toNat) := hs.app _ _
    exact order_gt k n f s k' n' f' s' m m' h h' hn hn' hf hf' hm hm' _ rfl _ _ _ _ rfl rfl rfl rfl c (KeyW.less_asymm hs.less) (ne_beq (sep_ne hs).symm) (KeyW.less_asymm hp.less) (ne_beq (sep_ne hp).symm) w hM

end Go.Proofs.YticjfnglciomhaaDoor
