/-
  The walk over the law's word that its parts wake: one value's key, one entry's key, and what it is split into.
-/
import Derived.Test.YticjfnglciomhaaDoorT4
namespace Go.Proofs.YticjfnglciomhaaDoor
open Go.RowKit

theorem of_const (w : World) (hM : MaxAt w) :
    Calls Tryd.prog 11 #[V 2 1 0 ⟨#[]⟩] w fun e w' => e = .returned (.tuple #[.string ⟨#[2, 128, 0, 0, 0, 0, 0, 0, 1]⟩, .int .i64 0]) ∧ Below w.heap.size w w' := by
  have := of_any 2 1 0 ⟨#[]⟩ (by decide) (by decide) w hM
  rw [show (⟨#[]⟩ : ByteArray).toList = [] from one_list []] at this
  exact this
theorem entry_const (w : World) (hM : MaxAt w) :
    Calls Tryd.prog 12 #[V 4 0 0 ⟨#[97]⟩, .int .i64 258] w fun e w' => e = .returned (.tuple #[.string ⟨#[4, 97, 0, 1, 1, 2]⟩, .int .i64 0]) ∧ Below w.heap.size w w' := by
  have := entry_any 4 0 0 ⟨#[97]⟩ 258 (by decide) (by decide) w hM
  rw [show (⟨#[97]⟩ : ByteArray).toList = [97] from one_list [97]] at this
  exact this
theorem split_const (w : World) :
    Calls Tryd.prog 15 #[.string ⟨#[4, 97, 0, 1, 1, 2]⟩] w fun e w' => e = .returned (.tuple #[V 4 0 0 ⟨#[97]⟩, .int .i64 258, .int .i64 0]) ∧ Below w.heap.size w w' := by
  have := split_any ⟨#[4, 97, 0, 1, 1, 2]⟩ (by decide) w
  rw [show (⟨#[4, 97, 0, 1, 1, 2]⟩ : ByteArray).toList = [4, 97, 0, 1, 1, 2] from one_list [4, 97, 0, 1, 1, 2]] at this
  exact this

set_option maxHeartbeats 2000000 in
set_option maxRecDepth 100000 in
/-- The law's own test of its parts: it holds. -/
theorem wakes_any (w : World) (hM : MaxAt w) :
    Calls Tryd.prog 10 #[] w fun e w' => e = .returned (.bool true) ∧ Below w.heap.size w w' := by
  have HM := Lib.hid hM
  go_enter Tryd.func10, Tryd.ntmps10
  go_wp2_with (first | (go_at_call 11; refine (of_const _ HM.out).mono ?_; rintro e w1 ⟨rfl, hb⟩; have HM1 := Lib.hid (HM.out.below hb); have HB1 := Lib.hid hb; have hs1 := hb.size; clear hb) | (go_at_call 12; refine (entry_const _ HM1.out).mono ?_; rintro e w2 ⟨rfl, hb⟩; have HB2 := Lib.hid (HB1.out.trans (hb.mono hs1)); have hs2 : w.heap.size ≤ w2.heap.size := (Nat.le_trans hs1 hb.size); clear hb) | (go_at_call 15; refine (split_const _).mono ?_; rintro e w3 ⟨rfl, hb⟩; have HB3 := Lib.hid (HB2.out.trans (hb.mono hs2)); have hs3 : w.heap.size ≤ w3.heap.size := (Nat.le_trans hs2 hb.size); clear hb))
  go_ret
  exact ⟨rfl, HB3.out.alloc hs3 _⟩

end Go.Proofs.YticjfnglciomhaaDoor
