/-
  The walk over the law's word that its parts wake: one value's key, one entry's key, and what it is split into.
-/
import Derived.Test.YtecmppmkidefmaaDoorT4
namespace Go.Proofs.YtecmppmkidefmaaDoor
open Go.RowKit

theorem of_const (w : World) (hM : MaxAt w) :
    Calls Tryd.prog 34 #[V 2 1 0 ⟨#[]⟩] w fun e w' => e = .returned (.tuple #[.string ⟨#[2, 128, 0, 0, 0, 0, 0, 0, 1]⟩, .int .i64 0]) ∧ Below w.heap.size w w' := by
  have := of_any 2 1 0 ⟨#[]⟩ (by decide) (by decide) w hM
  rw [show (⟨#[]⟩ : ByteArray).toList = [] from one_list []] at this
  exact this
theorem entry_const (w : World) (hM : MaxAt w) :
    Calls Tryd.prog 22 #[V 4 0 0 ⟨#[97]⟩, .int .i64 258] w fun e w' => e = .returned (.tuple #[.string ⟨#[4, 97, 0, 1, 1, 2]⟩, .int .i64 0]) ∧ Below w.heap.size w w' := by
  have := entry_any 4 0 0 ⟨#[97]⟩ 258 (by decide) (by decide) w hM
  rw [show (⟨#[97]⟩ : ByteArray).toList = [97] from one_list [97]] at this
  exact this
theorem split_const (w : World) :
    Calls Tryd.prog 60 #[.string ⟨#[4, 97, 0, 1, 1, 2]⟩] w fun e w' => e = .returned (.tuple #[V 4 0 0 ⟨#[97]⟩, .int .i64 258, .int .i64 0]) ∧ Below w.heap.size w w' := by
  have := split_any ⟨#[4, 97, 0, 1, 1, 2]⟩ (by decide) w
  rw [show (⟨#[4, 97, 0, 1, 1, 2]⟩ : ByteArray).toList = [4, 97, 0, 1, 1, 2] from one_list [4, 97, 0, 1, 1, 2]] at this
  exact this

end Go.Proofs.YtecmppmkidefmaaDoor
