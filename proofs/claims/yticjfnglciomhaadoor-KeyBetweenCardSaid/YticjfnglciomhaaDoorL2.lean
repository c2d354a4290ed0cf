/-
  The walk over KeyBetween: a value's entries stand from the least on and below what is behind them; no other value's do.
-/
import Derived.Test.YticjfnglciomhaaDoorL1
namespace Go.Proofs.YticjfnglciomhaaDoor
open Go.RowKit

theorem least_yes (k n : Int) (f : Nat) (s : ByteArray) (h : goodV k n f s.toList = true) (hn : -9223372036854775808 ≤ n ∧ n ≤ 9223372036854775807) (hf : f < 18446744073709551616) (w : World) (hM : MaxAt w) :
    Calls Tryd.prog 22 #[V k n f s] w fun e w' => e = .returned (.tuple #[.string ⟨(entryL k n f s.toList 0).toArray⟩, .int .i64 0]) ∧ Below w.heap.size w w' := by
  have := least_any k n f s hn hf w hM
  unfold entryK entryE at this
  rw [h] at this
  exact this
theorem after_yes (k n : Int) (f : Nat) (s : ByteArray) (h : goodV k n f s.toList = true) (hn : -9223372036854775808 ≤ n ∧ n ≤ 9223372036854775807) (hf : f < 18446744073709551616) (w : World) (hM : MaxAt w) :
    Calls Tryd.prog 24 #[V k n f s] w fun e w' => e = .returned (.tuple #[.string ⟨(entryL k n f s.toList 65535 ++ [0]).toArray⟩, .int .i64 0]) ∧ Below w.heap.size w w' := by
  have := after_any k n f s hn hf w hM
  unfold afterK ofE at this
  rw [h] at this
  exact this

theorem entry_below {k n : Int} {f : Nat} {l : List UInt8} {m : Nat} (hm : m ≤ 65535) : Op.bytesLess (entryL k n f l m) (entryL k n f l 65535 ++ [0]) = true := by
  rcases Nat.lt_or_ge m 65535 with d | d
  · have h : KeyW.Sep (entryL k n f l m) (entryL k n f l 65535) := sep_behind _ (pair_sep hm (by omega) d)
    have := h [] [0]
    rwa [List.append_nil] at this
  · obtain rfl : m = 65535 := by omega
    have := KeyW.less_prefix (entryL k n f l 65535) [] [0]
    rw [List.append_nil] at this
    rw [this]; rfl
theorem entry_from {k n : Int} {f : Nat} {l : List UInt8} {m : Nat} (hm : m ≤ 65535) : Op.bytesLess (entryL k n f l m) (entryL k n f l 0) = false := by
  rcases Nat.eq_zero_or_pos m with rfl | d
  · exact KeyW.less_irrefl _
  · have h : KeyW.Sep (entryL k n f l 0) (entryL k n f l m) := sep_behind _ (pair_sep (by omega) hm d)
    exact KeyW.less_asymm h.less
theorem leq_yes {a b : List UInt8} (h : Op.bytesLess b a = false) : (Op.bytesLess a b || a == b) = true := by
  rcases KeyW.less_total a b with d | d | d
  · rw [d]; rfl
  · subst d; rw [beq_self_eq_true, Bool.or_true]
  · rw [h] at d; cases d
theorem leq_no {a b : List UInt8} (h : Op.bytesLess b a = true) : (Op.bytesLess a b || a == b) = false := by
  rw [KeyW.less_asymm h, ne_beq (fun e => by subst e; rw [KeyW.less_irrefl] at h; cases h)]; rfl

set_option maxHeartbeats 4000000 in
set_option maxRecDepth 100000 in
theorem between_bad1 (k n : Int) (f : Nat) (s : ByteArray) (k' n' : Int) (f' : Nat) (s' : ByteArray) (m : Int) (h : goodV k n f s.toList = false) (w : World) (hM : MaxAt w) :
    Calls Tryd.prog 8 #[V k n f s, V k' n' f' s', .int .u16 m] w fun e w' => e = .returned (.bool true) ∧ Below w.heap.size w w' := by
  have HL := Lib.hid (Laid2.start w #[.int .i64 k, .int .i64 n, .float .f64 f, .string s] #[.int .i64 k', .int .i64 n', .float .f64 f', .string s'] hM)
  clear hM
  have c0 := HL.out.a.cell 0; have c1 := HL.out.a.cell 1; have c2 := HL.out.a.cell 2; have c3 := HL.out.a.cell 3; have b0 := HL.out.b.cell 0; have b1 := HL.out.b.cell 1; have b2 := HL.out.b.cell 2; have b3 := HL.out.b.cell 3
  go_enter Tryd.func8, Tryd.ntmps8
  go_wp2_with (first | (go_at_call 9; refine (good_ref _ _ _ _ _).mono ?_; rintro e w1 ⟨rfl, hb⟩; replace HL := Lib.hid (HL.out.call hb); clear c0 c1 c2 c3 b0 b1 b2 b3; have c0 := HL.out.a.cell 0; have c1 := HL.out.a.cell 1; have c2 := HL.out.a.cell 2; have c3 := HL.out.a.cell 3; have b0 := HL.out.b.cell 0; have b1 := HL.out.b.cell 1; have b2 := HL.out.b.cell 2; have b3 := HL.out.b.cell 3; clear hb) | (go_at_call 10; refine (wakes_any _ HL.out.max).mono ?_; rintro e w1 ⟨rfl, hb⟩; replace HL := Lib.hid (HL.out.call hb); clear c0 c1 c2 c3 b0 b1 b2 b3; have c0 := HL.out.a.cell 0; have c1 := HL.out.a.cell 1; have c2 := HL.out.a.cell 2; have c3 := HL.out.a.cell 3; have b0 := HL.out.b.cell 0; have b1 := HL.out.b.cell 1; have b2 := HL.out.b.cell 2; have b3 := HL.out.b.cell 3; clear hb))
  go_ret
  exact ⟨rfl, HL.out.below⟩


set_option maxHeartbeats 4000000 in
set_option maxRecDepth 100000 in
theorem between_bad2 (k n : Int) (f : Nat) (s : ByteArray) (k' n' : Int) (f' : Nat) (s' : ByteArray) (m : Int) (h : goodV k n f s.toList = true) (h' : goodV k' n' f' s'.toList = false) (w : World) (hM : MaxAt w) :
    Calls Tryd.prog 8 #[V k n f s, V k' n' f' s', .int .u16 m] w fun e w' => e = .returned (.bool true) ∧ Below w.heap.size w w' := by
  have HL := Lib.hid (Laid2.start w #[.int .i64 k, .int .i64 n, .float .f64 f, .string s] #[.int .i64 k', .int .i64 n', .float .f64 f', .string s'] hM)
  clear hM
  have c0 := HL.out.a.cell 0; have c1 := HL.out.a.cell 1; have c2 := HL.out.a.cell 2; have c3 := HL.out.a.cell 3; have b0 := HL.out.b.cell 0; have b1 := HL.out.b.cell 1; have b2 := HL.out.b.cell 2; have b3 := HL.out.b.cell 3
  go_enter Tryd.func8, Tryd.ntmps8
  go_wp2_with (first | (go_at_call 9; refine (good_ref _ _ _ _ _).mono ?_; rintro e w1 ⟨rfl, hb⟩; replace HL := Lib.hid (HL.out.call hb); clear c0 c1 c2 c3 b0 b1 b2 b3; have c0 := HL.out.a.cell 0; have c1 := HL.out.a.cell 1; have c2 := HL.out.a.cell 2; have c3 := HL.out.a.cell 3; have b0 := HL.out.b.cell 0; have b1 := HL.out.b.cell 1; have b2 := HL.out.b.cell 2; have b3 := HL.out.b.cell 3; clear hb) | (go_at_call 10; refine (wakes_any _ HL.out.max).mono ?_; rintro e w1 ⟨rfl, hb⟩; replace HL := Lib.hid (HL.out.call hb); clear c0 c1 c2 c3 b0 b1 b2 b3; have c0 := HL.out.a.cell 0; have c1 := HL.out.a.cell 1; have c2 := HL.out.a.cell 2; have c3 := HL.out.a.cell 3; have b0 := HL.out.b.cell 0; have b1 := HL.out.b.cell 1; have b2 := HL.out.b.cell 2; have b3 := HL.out.b.cell 3; clear hb))
  go_ret
  exact ⟨rfl, HL.out.below⟩


set_option maxHeartbeats 4000000 in
set_option maxRecDepth 100000 in
theorem between_lt (k n : Int) (f : Nat) (s : ByteArray) (k' n' : Int) (f' : Nat) (s' : ByteArray) (m : Int) (h : goodV k n f s.toList = true) (h' : goodV k' n' f' s'.toList = true) (hn : -9223372036854775808 ≤ n ∧ n ≤ 9223372036854775807) (hn' : -9223372036854775808 ≤ n' ∧ n' ≤ 9223372036854775807)
    (hf : f < 18446744073709551616) (hf' : f' < 18446744073709551616) (hm : 0 ≤ m ∧ m ≤ 65535) (c : Int) (hc : cmpV k n f s.toList k' n' f' s'.toList = c)
    (x y p q : List UInt8) (hx : entryL k n f s.toList 0 = x) (hy : entryL k n f s.toList 65535 ++ [0] = y) (hp : entryL k n f s.toList m.toNat = p) (hq : entryL k' n' f' s'.toList m.toNat = q) (e0 : (Op.bytesLess x p || x == p) = true) (e1 : Op.bytesLess p y = true)
    (hc0 : (c == 0) = false) (e2 : (Op.bytesLess x q || x == q) = true) (e3 : Op.bytesLess q y = false) (w : World) (hM : MaxAt w) :
    Calls Tryd.prog 8 #[V k n f s, V k' n' f' s', .int .u16 m] w fun e w' => e = .returned (.bool true) ∧ Below w.heap.size w w' := by
  have HL := Lib.hid (Laid2.start w #[.int .i64 k, .int .i64 n, .float .f64 f, .string s] #[.int .i64 k', .int .i64 n', .float .f64 f', .string s'] hM)
  clear hM
  have HN := Lib.hid hn
  have HN' := Lib.hid hn'
  have HF := Lib.hid hf
  have HF' := Lib.hid hf'
  have HM := Lib.hid hm
  have y0 : wrap64 m = m := w64_in m (by omega)
  clear hn hn' hf hf' hm
  have c0 := HL.out.a.cell 0; have c1 := HL.out.a.cell 1; have c2 := HL.out.a.cell 2; have c3 := HL.out.a.cell 3; have b0 := HL.out.b.cell 0; have b1 := HL.out.b.cell 1; have b2 := HL.out.b.cell 2; have b3 := HL.out.b.cell 3
  go_enter Tryd.func8, Tryd.ntmps8
  go_wp2_with (first | (go_at_call 9; refine (good_ref _ _ _ _ _).mono ?_; rintro e w1 ⟨rfl, hb⟩; replace HL := Lib.hid (HL.out.call hb); clear c0 c1 c2 c3 b0 b1 b2 b3; have c0 := HL.out.a.cell 0; have c1 := HL.out.a.cell 1; have c2 := HL.out.a.cell 2; have c3 := HL.out.a.cell 3; have b0 := HL.out.b.cell 0; have b1 := HL.out.b.cell 1; have b2 := HL.out.b.cell 2; have b3 := HL.out.b.cell 3; clear hb) | (go_at_call 22; refine (least_yes _ _ _ _ (by first | exact h | exact h') (by first | exact HN.out | exact HN'.out) (by first | exact HF.out | exact HF'.out) _ HL.out.max).mono ?_; rintro e w1 ⟨rfl, hb⟩; replace HL := Lib.hid (HL.out.call hb); clear c0 c1 c2 c3 b0 b1 b2 b3; have c0 := HL.out.a.cell 0; have c1 := HL.out.a.cell 1; have c2 := HL.out.a.cell 2; have c3 := HL.out.a.cell 3; have b0 := HL.out.b.cell 0; have b1 := HL.out.b.cell 1; have b2 := HL.out.b.cell 2; have b3 := HL.out.b.cell 3; clear hb) | (go_at_call 24; refine (after_yes _ _ _ _ (by first | exact h | exact h') (by first | exact HN.out | exact HN'.out) (by first | exact HF.out | exact HF'.out) _ HL.out.max).mono ?_; rintro e w1 ⟨rfl, hb⟩; replace HL := Lib.hid (HL.out.call hb); clear c0 c1 c2 c3 b0 b1 b2 b3; have c0 := HL.out.a.cell 0; have c1 := HL.out.a.cell 1; have c2 := HL.out.a.cell 2; have c3 := HL.out.a.cell 3; have b0 := HL.out.b.cell 0; have b1 := HL.out.b.cell 1; have b2 := HL.out.b.cell 2; have b3 := HL.out.b.cell 3; clear hb) | (go_at_call 12; refine (entry_in _ _ _ _ _ HM.out.1 HM.out.2 (by first | exact h | exact h') (by first | exact HN.out | exact HN'.out) (by first | exact HF.out | exact HF'.out) _ HL.out.max).mono ?_; rintro e w1 ⟨rfl, hb⟩; replace HL := Lib.hid (HL.out.call hb); clear c0 c1 c2 c3 b0 b1 b2 b3; have c0 := HL.out.a.cell 0; have c1 := HL.out.a.cell 1; have c2 := HL.out.a.cell 2; have c3 := HL.out.a.cell 3; have b0 := HL.out.b.cell 0; have b1 := HL.out.b.cell 1; have b2 := HL.out.b.cell 2; have b3 := HL.out.b.cell 3; clear hb) | (go_at_call 13; refine (cmp_ref _ _ _ _ _ _ _ _ _).mono ?_; rintro e w1 ⟨rfl, hb⟩; replace HL := Lib.hid (HL.out.call hb); clear c0 c1 c2 c3 b0 b1 b2 b3; have c0 := HL.out.a.cell 0; have c1 := HL.out.a.cell 1; have c2 := HL.out.a.cell 2; have c3 := HL.out.a.cell 3; have b0 := HL.out.b.cell 0; have b1 := HL.out.b.cell 1; have b2 := HL.out.b.cell 2; have b3 := HL.out.b.cell 3; clear hb) | (go_at_call 10; refine (wakes_any _ HL.out.max).mono ?_; rintro e w1 ⟨rfl, hb⟩; replace HL := Lib.hid (HL.out.call hb); clear c0 c1 c2 c3 b0 b1 b2 b3; have c0 := HL.out.a.cell 0; have c1 := HL.out.a.cell 1; have c2 := HL.out.a.cell 2; have c3 := HL.out.a.cell 3; have b0 := HL.out.b.cell 0; have b1 := HL.out.b.cell 1; have b2 := HL.out.b.cell 2; have b3 := HL.out.b.cell 3; clear hb))
  go_ret
  exact ⟨rfl, HL.out.below⟩


set_option maxHeartbeats 4000000 in
set_option maxRecDepth 100000 in
theorem between_eq (k n : Int) (f : Nat) (s : ByteArray) (k' n' : Int) (f' : Nat) (s' : ByteArray) (m : Int) (h : goodV k n f s.toList = true) (h' : goodV k' n' f' s'.toList = true) (hn : -9223372036854775808 ≤ n ∧ n ≤ 9223372036854775807) (hn' : -9223372036854775808 ≤ n' ∧ n' ≤ 9223372036854775807)
    (hf : f < 18446744073709551616) (hf' : f' < 18446744073709551616) (hm : 0 ≤ m ∧ m ≤ 65535) (hc : cmpV k n f s.toList k' n' f' s'.toList = 0)
    (x y p q : List UInt8) (hx : entryL k n f s.toList 0 = x) (hy : entryL k n f s.toList 65535 ++ [0] = y) (hp : entryL k n f s.toList m.toNat = p) (hq : entryL k' n' f' s'.toList m.toNat = q) (e0 : (Op.bytesLess x p || x == p) = true) (e1 : Op.bytesLess p y = true)
    (e2 : (Op.bytesLess x q || x == q) = true) (e3 : Op.bytesLess q y = true) (w : World) (hM : MaxAt w) :
    Calls Tryd.prog 8 #[V k n f s, V k' n' f' s', .int .u16 m] w fun e w' => e = .returned (.bool true) ∧ Below w.heap.size w w' := by
  have HL := Lib.hid (Laid2.start w #[.int .i64 k, .int .i64 n, .float .f64 f, .string s] #[.int .i64 k', .int .i64 n', .float .f64 f', .string s'] hM)
  clear hM
  have HN := Lib.hid hn
  have HN' := Lib.hid hn'
  have HF := Lib.hid hf
  have HF' := Lib.hid hf'
  have HM := Lib.hid hm
  have y0 : wrap64 m = m := w64_in m (by omega)
  clear hn hn' hf hf' hm
  have c0 := HL.out.a.cell 0; have c1 := HL.out.a.cell 1; have c2 := HL.out.a.cell 2; have c3 := HL.out.a.cell 3; have b0 := HL.out.b.cell 0; have b1 := HL.out.b.cell 1; have b2 := HL.out.b.cell 2; have b3 := HL.out.b.cell 3
  go_enter Tryd.func8, Tryd.ntmps8
  go_wp2_with (first | (go_at_call 9; refine (good_ref _ _ _ _ _).mono ?_; rintro e w1 ⟨rfl, hb⟩; replace HL := Lib.hid (HL.out.call hb); clear c0 c1 c2 c3 b0 b1 b2 b3; have c0 := HL.out.a.cell 0; have c1 := HL.out.a.cell 1; have c2 := HL.out.a.cell 2; have c3 := HL.out.a.cell 3; have b0 := HL.out.b.cell 0; have b1 := HL.out.b.cell 1; have b2 := HL.out.b.cell 2; have b3 := HL.out.b.cell 3; clear hb) | (go_at_call 22; refine (least_yes _ _ _ _ (by first | exact h | exact h') (by first | exact HN.out | exact HN'.out) (by first | exact HF.out | exact HF'.out) _ HL.out.max).mono ?_; rintro e w1 ⟨rfl, hb⟩; replace HL := Lib.hid (HL.out.call hb); clear c0 c1 c2 c3 b0 b1 b2 b3; have c0 := HL.out.a.cell 0; have c1 := HL.out.a.cell 1; have c2 := HL.out.a.cell 2; have c3 := HL.out.a.cell 3; have b0 := HL.out.b.cell 0; have b1 := HL.out.b.cell 1; have b2 := HL.out.b.cell 2; have b3 := HL.out.b.cell 3; clear hb) | (go_at_call 24; refine (after_yes _ _ _ _ (by first | exact h | exact h') (by first | exact HN.out | exact HN'.out) (by first | exact HF.out | exact HF'.out) _ HL.out.max).mono ?_; rintro e w1 ⟨rfl, hb⟩; replace HL := Lib.hid (HL.out.call hb); clear c0 c1 c2 c3 b0 b1 b2 b3; have c0 := HL.out.a.cell 0; have c1 := HL.out.a.cell 1; have c2 := HL.out.a.cell 2; have c3 := HL.out.a.cell 3; have b0 := HL.out.b.cell 0; have b1 := HL.out.b.cell 1; have b2 := HL.out.b.cell 2; have b3 := HL.out.b.cell 3; clear hb) | (go_at_call 12; refine (entry_in _ _ _ _ _ HM.out.1 HM.out.2 (by first | exact h | exact h') (by first | exact HN.out | exact HN'.out) (by first | exact HF.out | exact HF'.out) _ HL.out.max).mono ?_; rintro e w1 ⟨rfl, hb⟩; replace HL := Lib.hid (HL.out.call hb); clear c0 c1 c2 c3 b0 b1 b2 b3; have c0 := HL.out.a.cell 0; have c1 := HL.out.a.cell 1; have c2 := HL.out.a.cell 2; have c3 := HL.out.a.cell 3; have b0 := HL.out.b.cell 0; have b1 := HL.out.b.cell 1; have b2 := HL.out.b.cell 2; have b3 := HL.out.b.cell 3; clear hb) | (go_at_call 13; refine (cmp_ref _ _ _ _ _ _ _ _ _).mono ?_; rintro e w1 ⟨rfl, hb⟩; replace HL := Lib.hid (HL.out.call hb); clear c0 c1 c2 c3 b0 b1 b2 b3; have c0 := HL.out.a.cell 0; have c1 := HL.out.a.cell 1; have c2 := HL.out.a.cell 2; have c3 := HL.out.a.cell 3; have b0 := HL.out.b.cell 0; have b1 := HL.out.b.cell 1; have b2 := HL.out.b.cell 2; have b3 := HL.out.b.cell 3; clear hb) | (go_at_call 10; refine (wakes_any _ HL.out.max).mono ?_; rintro e w1 ⟨rfl, hb⟩; replace HL := Lib.hid (HL.out.call hb); clear c0 c1 c2 c3 b0 b1 b2 b3; have c0 := HL.out.a.cell 0; have c1 := HL.out.a.cell 1; have c2 := HL.out.a.cell 2; have c3 := HL.out.a.cell 3; have b0 := HL.out.b.cell 0; have b1 := HL.out.b.cell 1; have b2 := HL.out.b.cell 2; have b3 := HL.out.b.cell 3; clear hb))
  go_ret
  exact ⟨rfl, HL.out.below⟩


set_option maxHeartbeats 4000000 in
set_option maxRecDepth 100000 in
theorem between_gt (k n : Int) (f : Nat) (s : ByteArray) (k' n' : Int) (f' : Nat) (s' : ByteArray) (m : Int) (h : goodV k n f s.toList = true) (h' : goodV k' n' f' s'.toList = true) (hn : -9223372036854775808 ≤ n ∧ n ≤ 9223372036854775807) (hn' : -9223372036854775808 ≤ n' ∧ n' ≤ 9223372036854775807)
    (hf : f < 18446744073709551616) (hf' : f' < 18446744073709551616) (hm : 0 ≤ m ∧ m ≤ 65535) (c : Int) (hc : cmpV k n f s.toList k' n' f' s'.toList = c)
    (x y p q : List UInt8) (hx : entryL k n f s.toList 0 = x) (hy : entryL k n f s.toList 65535 ++ [0] = y) (hp : entryL k n f s.toList m.toNat = p) (hq : entryL k' n' f' s'.toList m.toNat = q) (e0 : (Op.bytesLess x p || x == p) = true) (e1 : Op.bytesLess p y = true)
    (hc0 : (c == 0) = false) (e2 : (Op.bytesLess x q || x == q) = false) (w : World) (hM : MaxAt w) :
    Calls Tryd.prog 8 #[V k n f s, V k' n' f' s', .int .u16 m] w fun e w' => e = .returned (.bool true) ∧ Below w.heap.size w w' := by
  have HL := Lib.hid (Laid2.start w #[.int .i64 k, .int .i64 n, .float .f64 f, .string s] #[.int .i64 k', .int .i64 n', .float .f64 f', .string s'] hM)
  clear hM
  have HN := Lib.hid hn
  have HN' := Lib.hid hn'
  have HF := Lib.hid hf
  have HF' := Lib.hid hf'
  have HM := Lib.hid hm
  have y0 : wrap64 m = m := w64_in m (by omega)
  clear hn hn' hf hf' hm
  have c0 := HL.out.a.cell 0; have c1 := HL.out.a.cell 1; have c2 := HL.out.a.cell 2; have c3 := HL.out.a.cell 3; have b0 := HL.out.b.cell 0; have b1 := HL.out.b.cell 1; have b2 := HL.out.b.cell 2; have b3 := HL.out.b.cell 3
  go_enter Tryd.func8, Tryd.ntmps8
  go_wp2_with (first | (go_at_call 9; refine (good_ref _ _ _ _ _).mono ?_; rintro e w1 ⟨rfl, hb⟩; replace HL := Lib.hid (HL.out.call hb); clear c0 c1 c2 c3 b0 b1 b2 b3; have c0 := HL.out.a.cell 0; have c1 := HL.out.a.cell 1; have c2 := HL.out.a.cell 2; have c3 := HL.out.a.cell 3; have b0 := HL.out.b.cell 0; have b1 := HL.out.b.cell 1; have b2 := HL.out.b.cell 2; have b3 := HL.out.b.cell 3; clear hb) | (go_at_call 22; refine (least_yes _ _ _ _ (by first | exact h | exact h') (by first | exact HN.out | exact HN'.out) (by first | exact HF.out | exact HF'.out) _ HL.out.max).mono ?_; rintro e w1 ⟨rfl, hb⟩; replace HL := Lib.hid (HL.out.call hb); clear c0 c1 c2 c3 b0 b1 b2 b3; have c0 := HL.out.a.cell 0; have c1 := HL.out.a.cell 1; have c2 := HL.out.a.cell 2; have c3 := HL.out.a.cell 3; have b0 := HL.out.b.cell 0; have b1 := HL.out.b.cell 1; have b2 := HL.out.b.cell 2; have b3 := HL.out.b.cell 3; clear hb) | (go_at_call 24; refine (after_yes _ _ _ _ (by first | exact h | exact h') (by first | exact HN.out | exact HN'.out) (by first | exact HF.out | exact HF'.out) _ HL.out.max).mono ?_; rintro e w1 ⟨rfl, hb⟩; replace HL := Lib.hid (HL.out.call hb); clear c0 c1 c2 c3 b0 b1 b2 b3; have c0 := HL.out.a.cell 0; have c1 := HL.out.a.cell 1; have c2 := HL.out.a.cell 2; have c3 := HL.out.a.cell 3; have b0 := HL.out.b.cell 0; have b1 := HL.out.b.cell 1; have b2 := HL.out.b.cell 2; have b3 := HL.out.b.cell 3; clear hb) | (go_at_call 12; refine (entry_in _ _ _ _ _ HM.out.1 HM.out.2 (by first | exact h | exact h') (by first | exact HN.out | exact HN'.out) (by first | exact HF.out | exact HF'.out) _ HL.out.max).mono ?_; rintro e w1 ⟨rfl, hb⟩; replace HL := Lib.hid (HL.out.call hb); clear c0 c1 c2 c3 b0 b1 b2 b3; have c0 := HL.out.a.cell 0; have c1 := HL.out.a.cell 1; have c2 := HL.out.a.cell 2; have c3 := HL.out.a.cell 3; have b0 := HL.out.b.cell 0; have b1 := HL.out.b.cell 1; have b2 := HL.out.b.cell 2; have b3 := HL.out.b.cell 3; clear hb) | (go_at_call 13; refine (cmp_ref _ _ _ _ _ _ _ _ _).mono ?_; rintro e w1 ⟨rfl, hb⟩; replace HL := Lib.hid (HL.out.call hb); clear c0 c1 c2 c3 b0 b1 b2 b3; have c0 := HL.out.a.cell 0; have c1 := HL.out.a.cell 1; have c2 := HL.out.a.cell 2; have c3 := HL.out.a.cell 3; have b0 := HL.out.b.cell 0; have b1 := HL.out.b.cell 1; have b2 := HL.out.b.cell 2; have b3 := HL.out.b.cell 3; clear hb) | (go_at_call 10; refine (wakes_any _ HL.out.max).mono ?_; rintro e w1 ⟨rfl, hb⟩; replace HL := Lib.hid (HL.out.call hb); clear c0 c1 c2 c3 b0 b1 b2 b3; have c0 := HL.out.a.cell 0; have c1 := HL.out.a.cell 1; have c2 := HL.out.a.cell 2; have c3 := HL.out.a.cell 3; have b0 := HL.out.b.cell 0; have b1 := HL.out.b.cell 1; have b2 := HL.out.b.cell 2; have b3 := HL.out.b.cell 3; clear hb))
  go_ret
  exact ⟨rfl, HL.out.below⟩


/-- KeyBetween answers yes, whatever it is asked. -/
theorem keyBetween_any (k n : Int) (f : Nat) (s : ByteArray) (k' n' : Int) (f' : Nat) (s' : ByteArray) (m : Int) (hn : -9223372036854775808 ≤ n ∧ n ≤ 9223372036854775807) (hn' : -9223372036854775808 ≤ n' ∧ n' ≤ 9223372036854775807)
    (hf : f < 18446744073709551616) (hf' : f' < 18446744073709551616) (hm : 0 ≤ m ∧ m ≤ 65535) (w : World) (hM : MaxAt w) :
    Calls Tryd.prog 8 #[V k n f s, V k' n' f' s', .int .u16 m] w fun e w' => e = .returned (.bool true) ∧ Below w.heap.size w w' := by
  cases h : goodV k n f s.toList
  · exact between_bad1 k n f s k' n' f' s' m h w hM
  cases h' : goodV k' n' f' s'.toList
  · exact between_bad2 k n f s k' n' f' s' m h h' w hM
  have e0 := leq_yes (@entry_from k n f s.toList m.toNat (by omega))
  have e1 := @entry_below k n f s.toList m.toNat (by omega)
  rcases KeyW.key_sep h h' hn hn' hf hf' with ⟨c, hs⟩ | ⟨c, rfl, rfl, rfl, hl⟩ | ⟨c, hs⟩
  · have h1 : Op.bytesLess (entryL k n f s.toList 0) (entryL k' n' f' s'.toList m.toNat) = true := (hs.app _ _).less
    have h2 : Op.bytesLess (entryL k n f s.toList 65535 ++ [0]) (entryL k' n' f' s'.toList m.toNat) = true := by
      unfold entryL; rw [List.append_assoc]; exact (hs.app _ _).less
    exact between_lt k n f s k' n' f' s' m h h' hn hn' hf hf' hm _ rfl _ _ _ _ rfl rfl rfl rfl e0 e1 (beq_eq_false_iff_ne.2 (by omega)) (leq_yes (KeyW.less_asymm h1)) (KeyW.less_asymm h2) w hM
  · exact between_eq k n f s k n f s' m h h' hn hn' hf hf' hm c _ _ _ _ rfl rfl rfl rfl e0 e1 (by rw [← hl]; exact e0) (by rw [← hl]; exact e1) w hM
  · exact between_gt k n f s k' n' f' s' m h h' hn hn' hf hf' hm _ rfl _ _ _ _ rfl rfl rfl rfl e0 e1 (beq_eq_false_iff_ne.2 (by omega)) (leq_no (hs.app _ _).less) w hM

end Go.Proofs.YticjfnglciomhaaDoor
