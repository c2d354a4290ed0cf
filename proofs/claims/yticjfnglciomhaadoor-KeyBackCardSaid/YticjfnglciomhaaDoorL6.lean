/-
  The walk over KeyBack: what was made is read as it was, and what was read is made as it stood.
-/
import Derived.Test.YticjfnglciomhaaDoorT4
import Derived.Test.YticjfnglciomhaaDoorL4
namespace Go.Proofs.YticjfnglciomhaaDoor
open Go.RowKit

theorem split_entry {k n : Int} {f : Nat} {l : List UInt8} {m : Int} (h : goodV k n f l = true) (hn : -9223372036854775808 ≤ n ∧ n ≤ 9223372036854775807) (hf : f < 18446744073709551616) (hm : 0 ≤ m ∧ m ≤ 65535) :
    splitV (entryL k n f l m.toNat) = .tuple #[V k n f ⟨l.toArray⟩, .int .i64 m, .int .i64 0] := by
  have e := KeyW.first_of_key h hn hf [(m.toNat / 256).toUInt8, (m.toNat % 256).toUInt8]
  unfold splitV entryL
  rw [e]
  have h1 : ((m.toNat / 256).toUInt8.toNat : Int) * 256 + ((m.toNat % 256).toUInt8.toNat : Int) = m := by
    have a1 : (m.toNat / 256).toUInt8.toNat = m.toNat / 256 := by show (m.toNat / 256) % 256 = _; omega
    have a2 : (m.toNat % 256).toUInt8.toNat = m.toNat % 256 := by show (m.toNat % 256) % 256 = _; omega
    rw [a1, a2]; omega
  simp only [h1]
theorem entry_size {k n : Int} {f : Nat} {l : List UInt8} {m : Nat} (h : goodV k n f l = true) : (⟨(entryL k n f l m).toArray⟩ : ByteArray).size ≤ 140737488351232 := by
  have := key_short h
  show (entryL k n f l m).length ≤ _
  unfold entryL
  rw [List.length_append]
  simp; omega
theorem same_self' (k n : Int) (f : Nat) (l : List UInt8) : sameB k n f l k n f l = true := by unfold sameB; simp

set_option maxHeartbeats 4000000 in
set_option maxRecDepth 100000 in
theorem back_large (k n : Int) (f : Nat) (s : ByteArray) (m : Int) (t : ByteArray) (h : decide (2000 < (s.size : Int)) = true) (w : World) (hM : MaxAt w) :
    Calls Tryd.prog 4 #[V k n f s, .int .u16 m, .string t] w fun e w' => e = .returned (.bool true) ∧ Below w.heap.size w w' := by
  have HL := Lib.hid (Laid1.start w #[.int .i64 k, .int .i64 n, .float .f64 f, .string s] hM)
  clear hM
  have c0 := HL.out.a.cell 0; have c1 := HL.out.a.cell 1; have c2 := HL.out.a.cell 2; have c3 := HL.out.a.cell 3
  go_enter Tryd.func4, Tryd.ntmps4
  go_wp2_with (first | (go_at_call 14; refine (large_any _ _ _ _ _).mono ?_; rintro e w1 ⟨rfl, hb⟩; replace HL : Hid (Laid1 w w1 #[.int .i64 k, .int .i64 n, .float .f64 f, .string s]) := Lib.hid (by first | exact HL.out.call hb | exact (HL.out.alloc _).call hb); clear c0 c1 c2 c3; have c0 := HL.out.a.cell 0; have c1 := HL.out.a.cell 1; have c2 := HL.out.a.cell 2; have c3 := HL.out.a.cell 3; clear hb) | (go_at_call 10; refine (wakes_any _ (by first | exact HL.out.max | exact (HL.out.alloc _).max)).mono ?_; rintro e w1 ⟨rfl, hb⟩; replace HL : Hid (Laid1 w w1 #[.int .i64 k, .int .i64 n, .float .f64 f, .string s]) := Lib.hid (by first | exact HL.out.call hb | exact (HL.out.alloc _).call hb); clear c0 c1 c2 c3; have c0 := HL.out.a.cell 0; have c1 := HL.out.a.cell 1; have c2 := HL.out.a.cell 2; have c3 := HL.out.a.cell 3; clear hb))
  go_ret
  exact ⟨rfl, HL.out.below⟩

set_option maxHeartbeats 4000000 in
set_option maxRecDepth 100000 in
theorem back_long (k n : Int) (f : Nat) (s : ByteArray) (m : Int) (t : ByteArray) (h : decide (2000 < (s.size : Int)) = false) (h2 : (4000 : Int) < (t.size : Int)) (w : World) (hM : MaxAt w) :
    Calls Tryd.prog 4 #[V k n f s, .int .u16 m, .string t] w fun e w' => e = .returned (.bool true) ∧ Below w.heap.size w w' := by
  have HL := Lib.hid (Laid1.start w #[.int .i64 k, .int .i64 n, .float .f64 f, .string s] hM)
  clear hM
  have c0 := HL.out.a.cell 0; have c1 := HL.out.a.cell 1; have c2 := HL.out.a.cell 2; have c3 := HL.out.a.cell 3
  go_enter Tryd.func4, Tryd.ntmps4
  go_wp2_with (first | (go_at_call 14; refine (large_any _ _ _ _ _).mono ?_; rintro e w1 ⟨rfl, hb⟩; replace HL : Hid (Laid1 w w1 #[.int .i64 k, .int .i64 n, .float .f64 f, .string s]) := Lib.hid (by first | exact HL.out.call hb | exact (HL.out.alloc _).call hb); clear c0 c1 c2 c3; have c0 := HL.out.a.cell 0; have c1 := HL.out.a.cell 1; have c2 := HL.out.a.cell 2; have c3 := HL.out.a.cell 3; clear hb) | (go_at_call 10; refine (wakes_any _ (by first | exact HL.out.max | exact (HL.out.alloc _).max)).mono ?_; rintro e w1 ⟨rfl, hb⟩; replace HL : Hid (Laid1 w w1 #[.int .i64 k, .int .i64 n, .float .f64 f, .string s]) := Lib.hid (by first | exact HL.out.call hb | exact (HL.out.alloc _).call hb); clear c0 c1 c2 c3; have c0 := HL.out.a.cell 0; have c1 := HL.out.a.cell 1; have c2 := HL.out.a.cell 2; have c3 := HL.out.a.cell 3; clear hb))
  go_ret
  exact ⟨rfl, HL.out.below⟩

set_option maxHeartbeats 4000000 in
set_option maxRecDepth 100000 in
theorem back_good_none (k n : Int) (f : Nat) (s : ByteArray) (m : Int) (t : ByteArray) (hl : decide (2000 < (s.size : Int)) = false) (hl2 : ¬ (4000 : Int) < (t.size : Int)) (h : goodV k n f s.toList = true) (hn : -9223372036854775808 ≤ n ∧ n ≤ 9223372036854775807) (hf : f < 18446744073709551616) (hm : 0 ≤ m ∧ m ≤ 65535) (hv : valueV t.toList = .tuple #[V 0 0 0 ⟨#[]⟩, .int .i64 11]) (w : World) (hM : MaxAt w) :
    Calls Tryd.prog 4 #[V k n f s, .int .u16 m, .string t] w fun e w' => e = .returned (.bool true) ∧ Below w.heap.size w w' := by
  have HL := Lib.hid (Laid1.start w #[.int .i64 k, .int .i64 n, .float .f64 f, .string s] hM)
  clear hM
  have c0 := HL.out.a.cell 0; have c1 := HL.out.a.cell 1; have c2 := HL.out.a.cell 2; have c3 := HL.out.a.cell 3
  have HN := Lib.hid hn
  have HF := Lib.hid hf
  have HM := Lib.hid hm
  have HT := Lib.hid (show t.size ≤ 140737488351232 by omega)
  have y0 : wrap64 m = m := w64_in m (by omega)
  have HSP : Hid (splitV (⟨(entryL k n f s.toList m.toNat).toArray⟩ : ByteArray).toList = .tuple #[.agg #[.int .i64 k, .int .i64 n, .float .f64 f, .string s], .int .i64 m, .int .i64 0]) := Lib.hid (by
    rw [one_list, split_entry h hn hf hm, ← str_of_list (r := s) rfl])
  have HE := Lib.hid (@entry_size k n f s.toList m.toNat h)
  have q1 := same_self' k n f s.toList
  clear hn hf hm
  have HV : Hid (valueV t.toList = .tuple #[.agg #[.int .i64 0, .int .i64 0, .float .f64 0, .string ⟨#[]⟩], .int .i64 11]) := Lib.hid hv
  clear hv
  go_enter Tryd.func4, Tryd.ntmps4
  go_wp2_with (first | (go_at_call 14; refine (large_any _ _ _ _ _).mono ?_; rintro e w1 ⟨rfl, hb⟩; replace HL : Hid (Laid1 w w1 #[.int .i64 k, .int .i64 n, .float .f64 f, .string s]) := Lib.hid (by first | exact HL.out.call hb | exact (HL.out.alloc _).call hb); clear c0 c1 c2 c3; have c0 := HL.out.a.cell 0; have c1 := HL.out.a.cell 1; have c2 := HL.out.a.cell 2; have c3 := HL.out.a.cell 3; clear hb) | (go_at_call 12; refine (entry_in _ _ _ _ _ HM.out.1 HM.out.2 h HN.out HF.out _ HL.out.max).mono ?_; rintro e w1 ⟨rfl, hb⟩; replace HL : Hid (Laid1 w w1 #[.int .i64 k, .int .i64 n, .float .f64 f, .string s]) := Lib.hid (by first | exact HL.out.call hb | exact (HL.out.alloc _).call hb); clear c0 c1 c2 c3; have c0 := HL.out.a.cell 0; have c1 := HL.out.a.cell 1; have c2 := HL.out.a.cell 2; have c3 := HL.out.a.cell 3; clear hb) | (go_at_call 15; refine (split_any _ HE.out _).mono ?_; rintro e w1 ⟨rfl, hb⟩; rw [HSP.out]; replace HL := Lib.hid (HL.out.call hb); have HLx := Lib.hid (HL.out.alloc (.cells #[.int .i64 k, .int .i64 n, .float .f64 f, .string s] 24)); clear c0 c1 c2 c3; have c0 := HLx.out.a.cell 0; have c1 := HLx.out.a.cell 1; have c2 := HLx.out.a.cell 2; have c3 := HLx.out.a.cell 3; clear hb) | (go_at_call 16; refine (keep_value _ _ _ _ _ _ _ _ _).mono ?_; rintro e w1 ⟨rfl, hb⟩; replace HL : Hid (Laid1 w w1 #[.int .i64 k, .int .i64 n, .float .f64 f, .string s]) := Lib.hid (by first | exact HL.out.call hb | exact (HL.out.alloc _).call hb); clear c0 c1 c2 c3; have c0 := HL.out.a.cell 0; have c1 := HL.out.a.cell 1; have c2 := HL.out.a.cell 2; have c3 := HL.out.a.cell 3; clear hb) | (go_at_call 17; refine (value_any _ HT.out _).mono ?_; rintro e w1 ⟨rfl, hb⟩; rw [HV.out]; replace HL : Hid (Laid1 w w1 #[.int .i64 k, .int .i64 n, .float .f64 f, .string s]) := Lib.hid (by first | exact HL.out.call hb | exact (HL.out.alloc _).call hb); clear c0 c1 c2 c3; have c0 := HL.out.a.cell 0; have c1 := HL.out.a.cell 1; have c2 := HL.out.a.cell 2; have c3 := HL.out.a.cell 3; clear hb) | (go_at_call 10; refine (wakes_any _ (by first | exact HL.out.max | exact (HL.out.alloc _).max)).mono ?_; rintro e w1 ⟨rfl, hb⟩; replace HL : Hid (Laid1 w w1 #[.int .i64 k, .int .i64 n, .float .f64 f, .string s]) := Lib.hid (by first | exact HL.out.call hb | exact (HL.out.alloc _).call hb); clear c0 c1 c2 c3; have c0 := HL.out.a.cell 0; have c1 := HL.out.a.cell 1; have c2 := HL.out.a.cell 2; have c3 := HL.out.a.cell 3; clear hb))
  go_ret
  exact ⟨rfl, HL.out.below⟩

set_option maxHeartbeats 4000000 in
set_option maxRecDepth 100000 in
theorem back_good_some (k n : Int) (f : Nat) (s : ByteArray) (m : Int) (t : ByteArray) (hl : decide (2000 < (s.size : Int)) = false) (hl2 : ¬ (4000 : Int) < (t.size : Int)) (h : goodV k n f s.toList = true) (hn : -9223372036854775808 ≤ n ∧ n ≤ 9223372036854775807) (hf : f < 18446744073709551616) (hm : 0 ≤ m ∧ m ≤ 65535) (v : Val) (hv : valueV t.toList = .tuple #[V v.k v.n v.f ⟨v.l.toArray⟩, .int .i64 0]) (hg : goodV v.k v.n v.f v.l = true) (hvn : -9223372036854775808 ≤ v.n ∧ v.n ≤ 9223372036854775807) (hvf : v.f < 18446744073709551616) (hk : keyL v.k v.n v.f v.l = t.toList) (w : World) (hM : MaxAt w) :
    Calls Tryd.prog 4 #[V k n f s, .int .u16 m, .string t] w fun e w' => e = .returned (.bool true) ∧ Below w.heap.size w w' := by
  have HL := Lib.hid (Laid1.start w #[.int .i64 k, .int .i64 n, .float .f64 f, .string s] hM)
  clear hM
  have c0 := HL.out.a.cell 0; have c1 := HL.out.a.cell 1; have c2 := HL.out.a.cell 2; have c3 := HL.out.a.cell 3
  have HN := Lib.hid hn
  have HF := Lib.hid hf
  have HM := Lib.hid hm
  have HT := Lib.hid (show t.size ≤ 140737488351232 by omega)
  have y0 : wrap64 m = m := w64_in m (by omega)
  have HSP : Hid (splitV (⟨(entryL k n f s.toList m.toNat).toArray⟩ : ByteArray).toList = .tuple #[.agg #[.int .i64 k, .int .i64 n, .float .f64 f, .string s], .int .i64 m, .int .i64 0]) := Lib.hid (by
    rw [one_list, split_entry h hn hf hm, ← str_of_list (r := s) rfl])
  have HE := Lib.hid (@entry_size k n f s.toList m.toNat h)
  have q1 := same_self' k n f s.toList
  clear hn hf hm
  have HV : Hid (valueV t.toList = .tuple #[.agg #[.int .i64 v.k, .int .i64 v.n, .float .f64 v.f, .string ⟨v.l.toArray⟩], .int .i64 0]) := Lib.hid hv
  have HG : Hid (goodV v.k v.n v.f (⟨v.l.toArray⟩ : ByteArray).toList = true) := Lib.hid (by rw [one_list]; exact hg)
  have HVN := Lib.hid hvn
  have HVF := Lib.hid hvf
  clear hv hg hvn hvf
  go_enter Tryd.func4, Tryd.ntmps4
  go_wp2_with (first | (go_at_call 14; refine (large_any _ _ _ _ _).mono ?_; rintro e w1 ⟨rfl, hb⟩; replace HL : Hid (Laid1 w w1 #[.int .i64 k, .int .i64 n, .float .f64 f, .string s]) := Lib.hid (by first | exact HL.out.call hb | exact (HL.out.alloc _).call hb); clear c0 c1 c2 c3; have c0 := HL.out.a.cell 0; have c1 := HL.out.a.cell 1; have c2 := HL.out.a.cell 2; have c3 := HL.out.a.cell 3; clear hb) | (go_at_call 12; refine (entry_in _ _ _ _ _ HM.out.1 HM.out.2 h HN.out HF.out _ HL.out.max).mono ?_; rintro e w1 ⟨rfl, hb⟩; replace HL : Hid (Laid1 w w1 #[.int .i64 k, .int .i64 n, .float .f64 f, .string s]) := Lib.hid (by first | exact HL.out.call hb | exact (HL.out.alloc _).call hb); clear c0 c1 c2 c3; have c0 := HL.out.a.cell 0; have c1 := HL.out.a.cell 1; have c2 := HL.out.a.cell 2; have c3 := HL.out.a.cell 3; clear hb) | (go_at_call 15; refine (split_any _ HE.out _).mono ?_; rintro e w1 ⟨rfl, hb⟩; rw [HSP.out]; replace HL := Lib.hid (HL.out.call hb); have HLx := Lib.hid (HL.out.alloc (.cells #[.int .i64 k, .int .i64 n, .float .f64 f, .string s] 24)); clear c0 c1 c2 c3; have c0 := HLx.out.a.cell 0; have c1 := HLx.out.a.cell 1; have c2 := HLx.out.a.cell 2; have c3 := HLx.out.a.cell 3; clear hb) | (go_at_call 16; refine (keep_value _ _ _ _ _ _ _ _ _).mono ?_; rintro e w1 ⟨rfl, hb⟩; replace HL : Hid (Laid1 w w1 #[.int .i64 k, .int .i64 n, .float .f64 f, .string s]) := Lib.hid (by first | exact HL.out.call hb | exact (HL.out.alloc _).call hb); clear c0 c1 c2 c3; have c0 := HL.out.a.cell 0; have c1 := HL.out.a.cell 1; have c2 := HL.out.a.cell 2; have c3 := HL.out.a.cell 3; clear hb) | (go_at_call 17; refine (value_any _ HT.out _).mono ?_; rintro e w1 ⟨rfl, hb⟩; rw [HV.out]; replace HL : Hid (Laid1 w w1 #[.int .i64 k, .int .i64 n, .float .f64 f, .string s]) := Lib.hid (by first | exact HL.out.call hb | exact (HL.out.alloc _).call hb); clear c0 c1 c2 c3; have c0 := HL.out.a.cell 0; have c1 := HL.out.a.cell 1; have c2 := HL.out.a.cell 2; have c3 := HL.out.a.cell 3; clear hb) | (go_at_call 11; refine (of_yes _ _ _ _ HG.out HVN.out HVF.out _ (by first | exact HL.out.max | exact (HL.out.alloc _).max)).mono ?_; rintro e w1 ⟨rfl, hb⟩; replace HL : Hid (Laid1 w w1 #[.int .i64 k, .int .i64 n, .float .f64 f, .string s]) := Lib.hid (by first | exact HL.out.call hb | exact (HL.out.alloc _).call hb); clear c0 c1 c2 c3; have c0 := HL.out.a.cell 0; have c1 := HL.out.a.cell 1; have c2 := HL.out.a.cell 2; have c3 := HL.out.a.cell 3; clear hb) | (go_at_call 10; refine (wakes_any _ (by first | exact HL.out.max | exact (HL.out.alloc _).max)).mono ?_; rintro e w1 ⟨rfl, hb⟩; replace HL : Hid (Laid1 w w1 #[.int .i64 k, .int .i64 n, .float .f64 f, .string s]) := Lib.hid (by first | exact HL.out.call hb | exact (HL.out.alloc _).call hb); clear c0 c1 c2 c3; have c0 := HL.out.a.cell 0; have c1 := HL.out.a.cell 1; have c2 := HL.out.a.cell 2; have c3 := HL.out.a.cell 3; clear hb))
  go_ret
  exact ⟨rfl, HL.out.below⟩

set_option maxHeartbeats 4000000 in
set_option maxRecDepth 100000 in
theorem back_bad_none (k n : Int) (f : Nat) (s : ByteArray) (m : Int) (t : ByteArray) (hl : decide (2000 < (s.size : Int)) = false) (hl2 : ¬ (4000 : Int) < (t.size : Int)) (h : goodV k n f s.toList = false) (hm : 0 ≤ m ∧ m ≤ 65535) (hv : valueV t.toList = .tuple #[V 0 0 0 ⟨#[]⟩, .int .i64 11]) (w : World) (hM : MaxAt w) :
    Calls Tryd.prog 4 #[V k n f s, .int .u16 m, .string t] w fun e w' => e = .returned (.bool true) ∧ Below w.heap.size w w' := by
  have HL := Lib.hid (Laid1.start w #[.int .i64 k, .int .i64 n, .float .f64 f, .string s] hM)
  clear hM
  have c0 := HL.out.a.cell 0; have c1 := HL.out.a.cell 1; have c2 := HL.out.a.cell 2; have c3 := HL.out.a.cell 3
  have HT := Lib.hid (show t.size ≤ 140737488351232 by omega)
  have y0 : wrap64 m = m := w64_in m (by omega)
  clear hm
  have HV : Hid (valueV t.toList = .tuple #[.agg #[.int .i64 0, .int .i64 0, .float .f64 0, .string ⟨#[]⟩], .int .i64 11]) := Lib.hid hv
  clear hv
  go_enter Tryd.func4, Tryd.ntmps4
  go_wp2_with (first | (go_at_call 14; refine (large_any _ _ _ _ _).mono ?_; rintro e w1 ⟨rfl, hb⟩; replace HL : Hid (Laid1 w w1 #[.int .i64 k, .int .i64 n, .float .f64 f, .string s]) := Lib.hid (by first | exact HL.out.call hb | exact (HL.out.alloc _).call hb); clear c0 c1 c2 c3; have c0 := HL.out.a.cell 0; have c1 := HL.out.a.cell 1; have c2 := HL.out.a.cell 2; have c3 := HL.out.a.cell 3; clear hb) | (go_at_call 12; refine (entry_no _ _ _ _ _ h _).mono ?_; rintro e w1 ⟨rfl, hb⟩; replace HL : Hid (Laid1 w w1 #[.int .i64 k, .int .i64 n, .float .f64 f, .string s]) := Lib.hid (by first | exact HL.out.call hb | exact (HL.out.alloc _).call hb); clear c0 c1 c2 c3; have c0 := HL.out.a.cell 0; have c1 := HL.out.a.cell 1; have c2 := HL.out.a.cell 2; have c3 := HL.out.a.cell 3; clear hb) | (go_at_call 17; refine (value_any _ HT.out _).mono ?_; rintro e w1 ⟨rfl, hb⟩; rw [HV.out]; replace HL : Hid (Laid1 w w1 #[.int .i64 k, .int .i64 n, .float .f64 f, .string s]) := Lib.hid (by first | exact HL.out.call hb | exact (HL.out.alloc _).call hb); clear c0 c1 c2 c3; have c0 := HL.out.a.cell 0; have c1 := HL.out.a.cell 1; have c2 := HL.out.a.cell 2; have c3 := HL.out.a.cell 3; clear hb) | (go_at_call 10; refine (wakes_any _ (by first | exact HL.out.max | exact (HL.out.alloc _).max)).mono ?_; rintro e w1 ⟨rfl, hb⟩; replace HL : Hid (Laid1 w w1 #[.int .i64 k, .int .i64 n, .float .f64 f, .string s]) := Lib.hid (by first | exact HL.out.call hb | exact (HL.out.alloc _).call hb); clear c0 c1 c2 c3; have c0 := HL.out.a.cell 0; have c1 := HL.out.a.cell 1; have c2 := HL.out.a.cell 2; have c3 := HL.out.a.cell 3; clear hb))
  go_ret
  exact ⟨rfl, HL.out.below⟩

set_option maxHeartbeats 4000000 in
set_option maxRecDepth 100000 in
theorem back_bad_some (k n : Int) (f : Nat) (s : ByteArray) (m : Int) (t : ByteArray) (hl : decide (2000 < (s.size : Int)) = false) (hl2 : ¬ (4000 : Int) < (t.size : Int)) (h : goodV k n f s.toList = false) (hm : 0 ≤ m ∧ m ≤ 65535) (v : Val) (hv : valueV t.toList = .tuple #[V v.k v.n v.f ⟨v.l.toArray⟩, .int .i64 0]) (hg : goodV v.k v.n v.f v.l = true) (hvn : -9223372036854775808 ≤ v.n ∧ v.n ≤ 9223372036854775807) (hvf : v.f < 18446744073709551616) (hk : keyL v.k v.n v.f v.l = t.toList) (w : World) (hM : MaxAt w) :
    Calls Tryd.prog 4 #[V k n f s, .int .u16 m, .string t] w fun e w' => e = .returned (.bool true) ∧ Below w.heap.size w w' := by
  have HL := Lib.hid (Laid1.start w #[.int .i64 k, .int .i64 n, .float .f64 f, .string s] hM)
  clear hM
  have c0 := HL.out.a.cell 0; have c1 := HL.out.a.cell 1; have c2 := HL.out.a.cell 2; have c3 := HL.out.a.cell 3
  have HT := Lib.hid (show t.size ≤ 140737488351232 by omega)
  have y0 : wrap64 m = m := w64_in m (by omega)
  clear hm
  have HV : Hid (valueV t.toList = .tuple #[.agg #[.int .i64 v.k, .int .i64 v.n, .float .f64 v.f, .string ⟨v.l.toArray⟩], .int .i64 0]) := Lib.hid hv
  have HG : Hid (goodV v.k v.n v.f (⟨v.l.toArray⟩ : ByteArray).toList = true) := Lib.hid (by rw [one_list]; exact hg)
  have HVN := Lib.hid hvn
  have HVF := Lib.hid hvf
  clear hv hg hvn hvf
  go_enter Tryd.func4, Tryd.ntmps4
  go_wp2_with (first | (go_at_call 14; refine (large_any _ _ _ _ _).mono ?_; rintro e w1 ⟨rfl, hb⟩; replace HL : Hid (Laid1 w w1 #[.int .i64 k, .int .i64 n, .float .f64 f, .string s]) := Lib.hid (by first | exact HL.out.call hb | exact (HL.out.alloc _).call hb); clear c0 c1 c2 c3; have c0 := HL.out.a.cell 0; have c1 := HL.out.a.cell 1; have c2 := HL.out.a.cell 2; have c3 := HL.out.a.cell 3; clear hb) | (go_at_call 12; refine (entry_no _ _ _ _ _ h _).mono ?_; rintro e w1 ⟨rfl, hb⟩; replace HL : Hid (Laid1 w w1 #[.int .i64 k, .int .i64 n, .float .f64 f, .string s]) := Lib.hid (by first | exact HL.out.call hb | exact (HL.out.alloc _).call hb); clear c0 c1 c2 c3; have c0 := HL.out.a.cell 0; have c1 := HL.out.a.cell 1; have c2 := HL.out.a.cell 2; have c3 := HL.out.a.cell 3; clear hb) | (go_at_call 17; refine (value_any _ HT.out _).mono ?_; rintro e w1 ⟨rfl, hb⟩; rw [HV.out]; replace HL : Hid (Laid1 w w1 #[.int .i64 k, .int .i64 n, .float .f64 f, .string s]) := Lib.hid (by first | exact HL.out.call hb | exact (HL.out.alloc _).call hb); clear c0 c1 c2 c3; have c0 := HL.out.a.cell 0; have c1 := HL.out.a.cell 1; have c2 := HL.out.a.cell 2; have c3 := HL.out.a.cell 3; clear hb) | (go_at_call 11; refine (of_yes _ _ _ _ HG.out HVN.out HVF.out _ (by first | exact HL.out.max | exact (HL.out.alloc _).max)).mono ?_; rintro e w1 ⟨rfl, hb⟩; replace HL : Hid (Laid1 w w1 #[.int .i64 k, .int .i64 n, .float .f64 f, .string s]) := Lib.hid (by first | exact HL.out.call hb | exact (HL.out.alloc _).call hb); clear c0 c1 c2 c3; have c0 := HL.out.a.cell 0; have c1 := HL.out.a.cell 1; have c2 := HL.out.a.cell 2; have c3 := HL.out.a.cell 3; clear hb) | (go_at_call 10; refine (wakes_any _ (by first | exact HL.out.max | exact (HL.out.alloc _).max)).mono ?_; rintro e w1 ⟨rfl, hb⟩; replace HL : Hid (Laid1 w w1 #[.int .i64 k, .int .i64 n, .float .f64 f, .string s]) := Lib.hid (by first | exact HL.out.call hb | exact (HL.out.alloc _).call hb); clear c0 c1 c2 c3; have c0 := HL.out.a.cell 0; have c1 := HL.out.a.cell 1; have c2 := HL.out.a.cell 2; have c3 := HL.out.a.cell 3; clear hb))
  go_ret
  exact ⟨rfl, HL.out.below⟩

/-- KeyBack answers yes, whatever it is asked. -/
theorem keyBack_any (k n : Int) (f : Nat) (s : ByteArray) (m : Int) (t : ByteArray) (hn : -9223372036854775808 ≤ n ∧ n ≤ 9223372036854775807) (hf : f < 18446744073709551616) (hm : 0 ≤ m ∧ m ≤ 65535) (_hs : s.size ≤ maxLen) (_ht : t.size ≤ maxLen)
    (w : World) (hM : MaxAt w) : Calls Tryd.prog 4 #[V k n f s, .int .u16 m, .string t] w fun e w' => e = .returned (.bool true) ∧ Below w.heap.size w w' := by
  cases h1 : decide (2000 < (s.size : Int))
  case true => exact back_large k n f s m t h1 w hM
  by_cases h2 : (4000 : Int) < (t.size : Int)
  · exact back_long k n f s m t h1 h2 w hM
  have hv : valueV t.toList = .tuple #[V 0 0 0 ⟨#[]⟩, .int .i64 11] ∨ ∃ v : Val, valueV t.toList = .tuple #[V v.k v.n v.f ⟨v.l.toArray⟩, .int .i64 0] ∧ goodV v.k v.n v.f v.l = true ∧
      (-9223372036854775808 ≤ v.n ∧ v.n ≤ 9223372036854775807) ∧ v.f < 18446744073709551616 ∧ keyL v.k v.n v.f v.l = t.toList := by
    unfold valueV
    cases e : firstL t.toList with
    | none => exact Or.inl rfl
    | some x =>
      obtain ⟨v, r⟩ := x
      cases r with
      | cons c r => exact Or.inl rfl
      | nil =>
        have := KeyW.key_of_first e
        exact Or.inr ⟨v, rfl, this.1, this.2.2.1, this.2.2.2, by rw [this.2.1, List.append_nil]⟩
  rcases hv with hv | ⟨v, hv, hg, hvn, hvf, hk⟩
  · cases h : goodV k n f s.toList
    · exact back_bad_none k n f s m t h1 h2 h hm hv w hM
    · exact back_good_none k n f s m t h1 h2 h hn hf hm hv w hM
  · cases h : goodV k n f s.toList
    · exact back_bad_some k n f s m t h1 h2 h hm v hv hg hvn hvf hk w hM
    · exact back_good_some k n f s m t h1 h2 h hn hf hm v hv hg hvn hvf hk w hM

end Go.Proofs.YticjfnglciomhaaDoor
