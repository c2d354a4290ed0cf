/-
  The walk over IndexNone, second part: the law itself.
-/
import Derived.Test.YtecmppmkidefmaaDoorN1
namespace Go.Proofs.YtecmppmkidefmaaDoor
open Go.RowKit LeafW

set_option maxHeartbeats 8000000 in
set_option maxRecDepth 100000 in
theorem indexNone_large (k n : Int) (f : Nat) (t : ByteArray) (tid : Int) (hl : decide (2000 < (t.size : Int)) = true) (w : World) (hM : MaxAt w) :
    Calls Tryd.prog 5 #[V k n f t, .int .i64 tid] w fun e w' => e = .returned (.bool true) ∧ Below w.heap.size w w' := by
  have hr := Row5.new w 33 #[.int .i64 k, .int .i64 n, .float .f64 f, .string t]
  have hb0 : Below w.heap.size w (w.alloc (.cells #[.int .i64 k, .int .i64 n, .float .f64 f, .string t] 33)) := (Below.refl _ _).alloc (Nat.le_refl _) _
  have HB := Lib.hid hb0
  have HR := Lib.hid hr
  have HM := Lib.hid (hM.below hb0)
  have HL := Lib.hid hl
  have c0 := hr.cell 0; have c1 := hr.cell 1; have c2 := hr.cell 2; have c3 := hr.cell 3
  clear hr hb0 hM hl
  go_enter Tryd.func5, Tryd.ntmps5
  go_wp2_with fail
  refine (large_any _ _ _ _ _).mono ?_
  rw [HL.out]
  rintro e w1 ⟨rfl, hb⟩
  have HB1 := Lib.hid (HB.out.trans (hb.mono HB.out.size))
  have HM1 := Lib.hid (HM.out.below hb)
  clear hb c0 c1 c2 c3
  go_wp2_with fail
  refine (wakes_any _ HM1.out).mono ?_
  rintro e w2 ⟨rfl, hb⟩
  have HB2 := Lib.hid (HB1.out.trans (hb.mono HB1.out.size))
  clear hb
  go_wp2
  go_ret
  exact ⟨rfl, HB2.out⟩

set_option maxHeartbeats 8000000 in
set_option maxRecDepth 100000 in
theorem indexNone_small (k n : Int) (f : Nat) (t : ByteArray) (tid : Int) (hn : -9223372036854775808 ≤ n ∧ n ≤ 9223372036854775807) (hf : f < 18446744073709551616) (hl : decide (2000 < (t.size : Int)) = false) (w : World) (hM : MaxAt w) :
    Calls Tryd.prog 5 #[V k n f t, .int .i64 tid] w fun e w' => e = .returned (.bool true) ∧ Below w.heap.size w w' := by
  have hr := Row5.new w 33 #[.int .i64 k, .int .i64 n, .float .f64 f, .string t]
  have hb0 : Below w.heap.size w (w.alloc (.cells #[.int .i64 k, .int .i64 n, .float .f64 f, .string t] 33)) := (Below.refl _ _).alloc (Nat.le_refl _) _
  have HB := Lib.hid hb0
  have HR := Lib.hid hr
  have HM := Lib.hid (hM.below hb0)
  have HL := Lib.hid hl
  have HN := Lib.hid hn
  have HF := Lib.hid hf
  have c0 := hr.cell 0; have c1 := hr.cell 1; have c2 := hr.cell 2; have c3 := hr.cell 3
  clear hr hb0 hM hl hn hf
  go_enter Tryd.func5, Tryd.ntmps5
  go_wp2_with fail
  refine (large_any _ _ _ _ _).mono ?_
  rw [HL.out]
  rintro e w1 ⟨rfl, hb⟩
  have HB1 := Lib.hid (HB.out.trans (hb.mono HB.out.size))
  have HM1 := Lib.hid (HM.out.below hb)
  have HR1 := Lib.hid (HR.out.below hb HR.out.lt)
  clear hb c0 c1 c2 c3 HB HM HR
  have c0 := HR1.out.cell 0; have c1 := HR1.out.cell 1; have c2 := HR1.out.cell 2; have c3 := HR1.out.cell 3
  go_wp2_with fail
  refine (add_none _ _ _ _ _ _).mono ?_
  rintro e w2 ⟨rfl, hb⟩
  have ha : Below w2.heap.size w2 (w2.alloc (.cells #[.int .i64 0, .int .i64 0] 37)) := (Below.refl _ _).alloc (Nat.le_refl _) _
  have hb' : Below w1.heap.size w1 (w2.alloc (.cells #[.int .i64 0, .int .i64 0] 37)) := hb.trans (ha.mono hb.size)
  have HB2 := Lib.hid (HB1.out.trans (hb'.mono HB1.out.size))
  have HM2 := Lib.hid (HM1.out.below hb')
  have HR2 := Lib.hid (HR1.out.below hb' HR1.out.lt)
  have HA2 := Lib.hid (Row5.new w2 37 #[.int .i64 0, .int .i64 0])
  clear hb ha hb' c0 c1 c2 c3 HB1 HM1 HR1
  have c0 := HR2.out.cell 0; have c1 := HR2.out.cell 1; have c2 := HR2.out.cell 2; have c3 := HR2.out.cell 3; have a0 := HA2.out.cell 0; have a1 := HA2.out.cell 1
  go_wp2_with fail
  refine (drop_none _ _ _ _ _ _).mono ?_
  rintro e w3 ⟨rfl, hb⟩
  have ha : Below w3.heap.size w3 (w3.alloc (.cells #[.int .i64 0, .int .i64 0] 37)) := (Below.refl _ _).alloc (Nat.le_refl _) _
  have hb' := hb.trans (ha.mono hb.size)
  have HB3 := Lib.hid (HB2.out.trans (hb'.mono HB2.out.size))
  have HM3 := Lib.hid (HM2.out.below hb')
  have HR3 := Lib.hid (HR2.out.below hb' HR2.out.lt)
  have HA3 := Lib.hid (HA2.out.below hb' HA2.out.lt)
  have HD3 := Lib.hid (Row5.new w3 37 #[.int .i64 0, .int .i64 0])
  clear hb ha hb' c0 c1 c2 c3 a0 a1 HB2 HM2 HR2 HA2
  have c0 := HR3.out.cell 0; have c1 := HR3.out.cell 1; have c2 := HR3.out.cell 2; have c3 := HR3.out.cell 3
  have a0 := HA3.out.cell 0; have a1 := HA3.out.cell 1; have d0 := HD3.out.cell 0; have d1 := HD3.out.cell 1
  go_wp2_with fail
  refine (find_none _ _ _ _ _ HN.out HF.out HM3.out).mono ?_
  rintro e w4 ⟨rfl, hb⟩
  have HB4 := Lib.hid (HB3.out.trans (hb.mono HB3.out.size))
  have HM4 := Lib.hid (HM3.out.below hb)
  have HR4 := Lib.hid (HR3.out.below hb HR3.out.lt)
  have HA4 := Lib.hid (HA3.out.below hb HA3.out.lt)
  have HD4 := Lib.hid (HD3.out.below hb HD3.out.lt)
  clear hb c0 c1 c2 c3 a0 a1 d0 d1 HB3 HM3 HR3 HA3 HD3
  have c0 := HR4.out.cell 0; have c1 := HR4.out.cell 1; have c2 := HR4.out.cell 2; have c3 := HR4.out.cell 3
  have a0 := HA4.out.cell 0; have a1 := HA4.out.cell 1; have d0 := HD4.out.cell 0; have d1 := HD4.out.cell 1
  go_wp2_with fail
  refine (range_none _ _ _ _ _ HN.out HF.out _ _ _ _ HN.out HF.out HM4.out).mono ?_
  rintro e w5 ⟨rfl, hb⟩
  have HB5 := Lib.hid (HB4.out.trans (hb.mono HB4.out.size))
  have HM5 := Lib.hid (HM4.out.below hb)
  have HR5 := Lib.hid (HR4.out.below hb HR4.out.lt)
  have HA5 := Lib.hid (HA4.out.below hb HA4.out.lt)
  have HD5 := Lib.hid (HD4.out.below hb HD4.out.lt)
  clear hb c0 c1 c2 c3 a0 a1 d0 d1 HB4 HM4 HR4 HA4 HD4
  have c0 := HR5.out.cell 0; have c1 := HR5.out.cell 1; have c2 := HR5.out.cell 2; have c3 := HR5.out.cell 3
  have a0 := HA5.out.cell 0; have a1 := HA5.out.cell 1; have d0 := HD5.out.cell 0; have d1 := HD5.out.cell 1
  go_wp2_with fail
  refine (ihas_bad _ none _ _ _ _ _ HN.out HF.out HM5.out _ rfl (Or.inl rfl)).mono ?_
  rintro e w6 ⟨rfl, hb⟩
  have HB6 := Lib.hid (HB5.out.trans (hb.mono HB5.out.size))
  have HM6 := Lib.hid (HM5.out.below hb)
  clear hb c0 c1 c2 c3 a0 a1 d0 d1 HB5 HM5 HR5 HA5 HD5
  go_wp2_with fail
  refine (ilen_none _).mono ?_
  rintro e w7 ⟨rfl, rfl⟩
  go_wp2_with fail
  refine (ileaves_none _).mono ?_
  rintro e w7 ⟨rfl, rfl⟩
  go_wp2_with fail
  refine (wakes_any _ HM6.out).mono ?_
  rintro e w8 ⟨rfl, hb⟩
  have HB8 := Lib.hid (HB6.out.trans (hb.mono HB6.out.size))
  clear hb
  go_wp2
  go_ret
  exact ⟨rfl, HB8.out⟩

theorem indexNone_any (k n : Int) (f : Nat) (t : ByteArray) (tid : Int) (hn : -9223372036854775808 ≤ n ∧ n ≤ 9223372036854775807) (hf : f < 18446744073709551616) (w : World) (hM : MaxAt w) :
    Calls Tryd.prog 5 #[V k n f t, .int .i64 tid] w fun e w' => e = .returned (.bool true) ∧ Below w.heap.size w w' := by
  cases h : decide (2000 < (t.size : Int))
  · exact indexNone_small k n f t tid hn hf h w hM
  · exact indexNone_large k n f t tid h w hM

end Go.Proofs.YtecmppmkidefmaaDoor
