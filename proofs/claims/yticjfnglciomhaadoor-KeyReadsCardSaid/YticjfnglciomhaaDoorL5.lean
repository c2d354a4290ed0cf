/-
  The walk over KeyReads: what the program reads out of a key is what the document reads.
-/
import Derived.Test.YticjfnglciomhaaDoorT6
import Derived.Test.YticjfnglciomhaaDoorL0
namespace Go.Proofs.YticjfnglciomhaaDoor
open Go.RowKit

theorem value_form (l : List UInt8) : ∃ (k n : Int) (f : Nat) (t : List UInt8) (e : Int), valueV l = .tuple #[.agg #[.int .i64 k, .int .i64 n, .float .f64 f, .string ⟨t.toArray⟩], .int .i64 e] := by
  unfold valueV
  cases firstL l with
  | none => exact ⟨0, 0, 0, [], 11, rfl⟩
  | some x =>
    obtain ⟨v, r⟩ := x
    cases r with
    | nil => exact ⟨v.k, v.n, v.f, v.l, 0, rfl⟩
    | cons c r => exact ⟨0, 0, 0, [], 11, rfl⟩
theorem split_form (l : List UInt8) : ∃ (k n : Int) (f : Nat) (t : List UInt8) (m e : Int), splitV l = .tuple #[.agg #[.int .i64 k, .int .i64 n, .float .f64 f, .string ⟨t.toArray⟩], .int .i64 m, .int .i64 e] ∧
    gotV l = .tuple #[.agg #[.int .i64 k, .int .i64 n, .float .f64 f, .string ⟨t.toArray⟩, .int .i64 m], .int .i64 e] := by
  by_cases h : ∃ v r, firstL l = some (v, r) ∧ r.length = 2
  · obtain ⟨v, r, h1, h2⟩ := h
    obtain ⟨a, b, rfl⟩ := two_list h2
    refine ⟨v.k, v.n, v.f, v.l, (a.toNat : Int) * 256 + b.toNat, 0, ?_, ?_⟩
    · unfold splitV; rw [h1]
    · unfold gotV; rw [h1]
  · have h1 : ∀ v r, firstL l = some (v, r) → r.length ≠ 2 := fun v r e1 e2 => h ⟨v, r, e1, e2⟩
    exact ⟨0, 0, 0, [], 0, 11, splitV_not h1, gotV_not h1⟩
theorem same_self (k n : Int) (f : Nat) (l : List UInt8) : sameB k n f l k n f l = true := by unfold sameB; simp

set_option maxHeartbeats 2000000 in
set_option maxRecDepth 100000 in
theorem reads_long (s : ByteArray) (h : (4000 : Int) < (s.size : Int)) (w : World) (hM : MaxAt w) :
    Calls Tryd.prog 6 #[.string s] w fun e w' => e = .returned (.bool true) ∧ Below w.heap.size w w' := by
  go_enter Tryd.func6, Tryd.ntmps6
  go_wp2_with (first | (go_at_call 10; refine (wakes_any _ hM).mono ?_; rintro e w1 ⟨rfl, hb⟩; have HB := Lib.hid hb; clear hb))
  go_ret
  exact ⟨rfl, HB.out⟩

set_option maxHeartbeats 4000000 in
set_option maxRecDepth 100000 in
theorem reads_short (s : ByteArray) (h : ¬ (4000 : Int) < (s.size : Int)) (w : World) (hM : MaxAt w) :
    Calls Tryd.prog 6 #[.string s] w fun e w' => e = .returned (.bool true) ∧ Below w.heap.size w w' := by
  have HS := Lib.hid (show s.size ≤ 140737488351232 by omega)
  have HM := Lib.hid hM
  obtain ⟨k1, n1, f1, l1, e1, v1⟩ := value_form s.toList
  obtain ⟨k2, n2, f2, l2, m2, e2, v2, v3⟩ := split_form s.toList
  have H1 := Lib.hid v1
  have H2 := Lib.hid v2
  have H3 := Lib.hid v3
  have q1 := same_self k1 n1 f1 l1
  have q2 := same_self k2 n2 f2 l2
  clear v1 v2 v3 hM
  go_enter Tryd.func6, Tryd.ntmps6
  go_wp2_with (first | (go_at_call 17; refine (value_any _ HS.out _).mono ?_; rintro e w1 ⟨rfl, hb⟩; rw [H1.out]; have HM1 := Lib.hid (HM.out.below hb); have HB1 := Lib.hid hb; have z1 := hb.size; clear hb) | (go_at_call 18; refine (rvalue_any _ HS.out _).mono ?_; rintro e w2 ⟨rfl, hb⟩; rw [H1.out]; have HM2 := Lib.hid ((HM1.out.alloc _).below hb); obtain ⟨HA2, z2, Hb2⟩ := boxN hb; have HB2 := Lib.hid (HB1.out.trans (Hb2.out.mono z1)); have y2 : w.heap.size ≤ w2.heap.size := Nat.le_trans z1 (Nat.le_of_lt z2); clear hb) | (go_at_call 15; refine (split_any _ HS.out _).mono ?_; rintro e w3 ⟨rfl, hb⟩; rw [H2.out]; have HM3 := Lib.hid ((HM2.out.alloc _).below hb); obtain ⟨HB3r, z3, Hb3⟩ := boxN hb; have HA3 := Lib.hid (HA2.out.below Hb3.out z2); have HB3 := Lib.hid (HB2.out.trans (Hb3.out.mono y2)); have y3 : w.heap.size ≤ w3.heap.size := Nat.le_trans y2 (Nat.le_of_lt z3); clear hb) | (go_at_call 19; refine (rsplit_any _ HS.out _).mono ?_; rintro e w4 ⟨rfl, hb⟩; rw [H3.out]; have HM4 := Lib.hid ((HM3.out.alloc _).below hb); obtain ⟨HC4, z4, Hb4⟩ := boxN hb; have HA4 := Lib.hid (HA3.out.below Hb4.out (Nat.lt_trans z2 z3)); have HB4r := Lib.hid (HB3r.out.below Hb4.out z3); have HB4 := Lib.hid (HB3.out.trans (Hb4.out.mono y3)); have y4 : w.heap.size ≤ w4.heap.size := Nat.le_trans y3 (Nat.le_of_lt z4); have HA4x := Lib.hid (HA4.out.alloc (.cells #[.int .i64 k2, .int .i64 n2, .float .f64 f2, .string ⟨l2.toArray⟩, .int .i64 m2] 47)); have HB4rx := Lib.hid (HB4r.out.alloc (.cells #[.int .i64 k2, .int .i64 n2, .float .f64 f2, .string ⟨l2.toArray⟩, .int .i64 m2] 47)); have HC4x := Lib.hid (HC4.out.alloc (.cells #[.int .i64 k2, .int .i64 n2, .float .f64 f2, .string ⟨l2.toArray⟩, .int .i64 m2] 47)); have a0 := HA4x.out.cell 0; have a1 := HA4x.out.cell 1; have a2 := HA4x.out.cell 2; have a3 := HA4x.out.cell 3; have b0 := HB4rx.out.cell 0; have b1 := HB4rx.out.cell 1; have b2 := HB4rx.out.cell 2; have b3 := HB4rx.out.cell 3; have c0 := HC4x.out.cell 0; have c1 := HC4x.out.cell 1; have c2 := HC4x.out.cell 2; have c3 := HC4x.out.cell 3; clear hb) | (go_at_call 16; refine (keep_value _ _ _ _ _ _ _ _ _).mono ?_; rintro e w5 ⟨rfl, hb⟩; have HM5 := Lib.hid ((HM4.out.alloc _).below hb); obtain ⟨HD5, z5, Hb5⟩ := boxN hb; have HC5 := Lib.hid (HC4.out.below Hb5.out z4); have HB5 := Lib.hid (HB4.out.trans (Hb5.out.mono y4)); have y5 : w.heap.size ≤ w5.heap.size := Nat.le_trans y4 (Nat.le_of_lt z5); have d0 := HC5.out.cell 0; have d1 := HC5.out.cell 1; have d2 := HC5.out.cell 2; have d3 := HC5.out.cell 3; have g0 := HD5.out.cell 0; have g1 := HD5.out.cell 1; have g2 := HD5.out.cell 2; have g3 := HD5.out.cell 3; have g4 := HD5.out.cell 4; clear hb) | (go_at_call 16; refine (keep_value _ _ _ _ _ _ _ _ _).mono ?_; rintro e w6 ⟨rfl, hb⟩; have HM6 := Lib.hid (HM5.out.below hb); have HD6 := Lib.hid (HD5.out.below hb z5); have HB6 := Lib.hid (HB5.out.trans (hb.mono y5)); have y6 : w.heap.size ≤ w6.heap.size := Nat.le_trans y5 hb.size; have j0 := HD6.out.cell 0; have j1 := HD6.out.cell 1; have j2 := HD6.out.cell 2; have j3 := HD6.out.cell 3; have j4 := HD6.out.cell 4; clear hb) | (go_at_call 10; refine (wakes_any _ HM6.out).mono ?_; rintro e w7 ⟨rfl, hb⟩; have HB7 := Lib.hid (HB6.out.trans (hb.mono y6)); clear hb))
  go_ret
  exact ⟨rfl, HB7.out⟩

/-- KeyReads answers yes, whatever it is asked. -/
theorem keyReads_any (s : ByteArray) (_hs : s.size ≤ maxLen) (w : World) (hM : MaxAt w) :
    Calls Tryd.prog 6 #[.string s] w fun e w' => e = .returned (.bool true) ∧ Below w.heap.size w w' := by
  by_cases h : (4000 : Int) < (s.size : Int)
  · exact reads_long s h w hM
  · exact reads_short s h w hM

end Go.Proofs.YticjfnglciomhaaDoor
