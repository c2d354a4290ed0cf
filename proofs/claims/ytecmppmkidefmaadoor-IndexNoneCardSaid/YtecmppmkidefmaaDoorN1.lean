/-
  The walk over IndexNone: an index that nobody made has no entries.
-/
import Derived.Test.YtecmppmkidefmaaDoorH17
namespace Go.Proofs.YtecmppmkidefmaaDoor
open Go.RowKit LeafW

set_option maxHeartbeats 2000000 in
set_option maxRecDepth 100000 in
theorem add_none (w : World) (k n : Int) (f : Nat) (t : ByteArray) (tid : Int) :
    Calls Tryd.prog 10 #[.pointer none, V k n f t, .int .i64 tid] w fun e w' => e = .returned (.tuple #[.int .i64 0, .agg #[.int .i64 0, .int .i64 0], .int .i64 1]) ∧ Below w.heap.size w w' := by
  obtain ⟨hr1, hr2, hb0, hz⟩ := two_new w #[.int .i64 k, .int .i64 n, .float .f64 f, .string t] 33 #[.int .i64 0, .int .i64 0] 37
  have HB := Lib.hid hb0
  have HR := Lib.hid hr2
  clear hr1 hr2 hb0 hz
  go_enter Tryd.func10, Tryd.ntmps10
  go_wp2_with (refine wpList_store_keep rfl 37 (.tmp 7) (.tmp 13) rfl (w.heap.size + 1) #[.int .i64 0, .int .i64 0] rfl rfl 37 #[.int .i64 0, .int .i64 0] HR.out info37 rfl (all2 rfl rfl) ?_; intro W2 hr0 hk0; have HR2 := Lib.hid hr0; have HK2 := Lib.hid hk0; clear hr0 hk0)
  exact bodyPost_ret (results_mid (p := 7) (u := 6) (v := 8) rfl _ W2 (w.heap.size + 1) 37 _ _ rfl HR2.out Tryd.underlying37 rfl info37) rfl ⟨rfl, HB.out.trans (HK2.out.below (by have := HB.out.size; omega) (fun i hi => by rw [List.mem_singleton.1 hi]; omega))⟩

set_option maxHeartbeats 2000000 in
set_option maxRecDepth 100000 in
theorem drop_none (w : World) (k n : Int) (f : Nat) (t : ByteArray) (tid : Int) :
    Calls Tryd.prog 9 #[.pointer none, V k n f t, .int .i64 tid] w fun e w' => e = .returned (.tuple #[.int .i64 0, .agg #[.int .i64 0, .int .i64 0], .int .i64 1]) ∧ Below w.heap.size w w' := by
  obtain ⟨hr1, hr2, hb0, hz⟩ := two_new w #[.int .i64 k, .int .i64 n, .float .f64 f, .string t] 33 #[.int .i64 0, .int .i64 0] 37
  have HB := Lib.hid hb0
  have HR := Lib.hid hr2
  clear hr1 hr2 hb0 hz
  go_enter Tryd.func9, Tryd.ntmps9
  go_wp2_with (refine wpList_store_keep rfl 37 (.tmp 7) (.tmp 13) rfl (w.heap.size + 1) #[.int .i64 0, .int .i64 0] rfl rfl 37 #[.int .i64 0, .int .i64 0] HR.out info37 rfl (all2 rfl rfl) ?_; intro W2 hr0 hk0; have HR2 := Lib.hid hr0; have HK2 := Lib.hid hk0; clear hr0 hk0)
  exact bodyPost_ret (results_mid (p := 7) (u := 6) (v := 8) rfl _ W2 (w.heap.size + 1) 37 _ _ rfl HR2.out Tryd.underlying37 rfl info37) rfl ⟨rfl, HB.out.trans (HK2.out.below (by have := HB.out.size; omega) (fun i hi => by rw [List.mem_singleton.1 hi]; omega))⟩

theorem least_some {k n : Int} {f : Nat} {t : ByteArray} (hn : -9223372036854775808 ≤ n ∧ n ≤ 9223372036854775807) (hf : f < 18446744073709551616) (w : World) (hM : MaxAt w) (A : ByteArray) (E : Int) (hA : (⟨(entryK k n f t.toList 0).toArray⟩ : ByteArray) = A) (hE : entryE k n f t.toList 0 = E) :
    Calls Tryd.prog 25 #[V k n f t] w fun e w' => e = .returned (.tuple #[.string A, .int .i64 E]) ∧ Below w.heap.size w w' := by
  have := least_any k n f t hn hf w hM
  rw [hA, hE] at this; exact this

set_option maxHeartbeats 4000000 in
set_option maxRecDepth 100000 in
theorem range_none (w : World) (k n : Int) (f : Nat) (t : ByteArray) (hn : -9223372036854775808 ≤ n ∧ n ≤ 9223372036854775807) (hf : f < 18446744073709551616) (k' n' : Int) (f' : Nat) (t' : ByteArray) (hn' : -9223372036854775808 ≤ n' ∧ n' ≤ 9223372036854775807) (hf' : f' < 18446744073709551616) (hM : MaxAt w) :
    Calls Tryd.prog 11 #[.pointer none, V k n f t, V k' n' f' t'] w fun e w' => e = .returned (.tuple #[.slice none 0 0, .slice none 0 0]) ∧ Below w.heap.size w w' := by
  obtain ⟨hr1, hr2, hb0, hz⟩ := two_new w #[.int .i64 k, .int .i64 n, .float .f64 f, .string t] 33 #[.int .i64 k', .int .i64 n', .float .f64 f', .string t'] 33
  have HB := Lib.hid hb0
  have HR := Lib.hid hr2
  have HM := Lib.hid (hM.below hb0)
  have HN := Lib.hid hn
  have HF := Lib.hid hf
  have HN' := Lib.hid hn'
  have HF' := Lib.hid hf'
  have HZ := Lib.hid hz
  obtain ⟨A, hA⟩ : ∃ A, (⟨(entryK k n f t.toList 0).toArray⟩ : ByteArray) = A := ⟨_, rfl⟩
  obtain ⟨E, hE⟩ : ∃ E, entryE k n f t.toList 0 = E := ⟨_, rfl⟩
  obtain ⟨B, hB⟩ : ∃ B, (⟨(entryK k' n' f' t'.toList 0).toArray⟩ : ByteArray) = B := ⟨_, rfl⟩
  obtain ⟨G, hG⟩ : ∃ G, entryE k' n' f' t'.toList 0 = G := ⟨_, rfl⟩
  have HA := Lib.hid hA
  have HE := Lib.hid hE
  have HBB := Lib.hid hB
  have HG := Lib.hid hG
  have c0 := hr1.cell 0; have c1 := hr1.cell 1; have c2 := hr1.cell 2; have c3 := hr1.cell 3
  clear hr1 hr2 hb0 hz hM hn hf hn' hf' hA hE hB hG
  go_enter Tryd.func11, Tryd.ntmps11
  go_wp2_with fail
  refine (least_some HN.out HF.out _ HM.out A E HA.out HE.out).mono ?_
  rintro e w1 ⟨rfl, hb⟩
  have HB1 := Lib.hid (HB.out.trans (hb.mono (by rw [HZ.out]; omega)))
  have HM1 := Lib.hid (HM.out.below hb)
  have hr := HR.out.below hb HR.out.lt
  clear c0 c1 c2 c3
  have c0 := hr.cell 0; have c1 := hr.cell 1; have c2 := hr.cell 2; have c3 := hr.cell 3
  clear hb hr
  go_wp2_with fail
  refine (least_some HN'.out HF'.out _ HM1.out B G HBB.out HG.out).mono ?_
  rintro e w2 ⟨rfl, hb⟩
  have HB2 := Lib.hid (HB1.out.trans (hb.mono HB1.out.size))
  clear hb c0 c1 c2 c3
  go_wp2
  go_ret2
  exact ⟨rfl, HB2.out⟩

set_option maxHeartbeats 1000000 in
theorem ilen_none (w : World) : Calls Tryd.prog 17 #[.pointer none] w fun e w' => e = .returned (.int .i64 0) ∧ w = w' := by
  go_enter Tryd.func17, Tryd.ntmps17
  go_wp2
  go_ret
  exact ⟨rfl, rfl⟩
set_option maxHeartbeats 1000000 in
theorem ileaves_none (w : World) : Calls Tryd.prog 20 #[.pointer none] w fun e w' => e = .returned (.slice none 0 0) ∧ w = w' := by
  go_enter Tryd.func20, Tryd.ntmps20
  go_wp2
  go_ret
  exact ⟨rfl, rfl⟩

end Go.Proofs.YtecmppmkidefmaaDoor
