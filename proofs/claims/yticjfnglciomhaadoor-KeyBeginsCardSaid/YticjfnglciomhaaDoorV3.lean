/-
  The walk over the statements' test whether two values are alike.
-/
import Derived.Test.YticjfnglciomhaaDoorV2
import Derived.WalkSmall
namespace Go.Proofs.YticjfnglciomhaaDoor
open Go.RowKit

def sameB (k n : Int) (f : Nat) (l : List UInt8) (k' n' : Int) (f' : Nat) (l' : List UInt8) : Bool := (k == k') && (n == n') && (f == f') && (l == l')

set_option maxHeartbeats 1000000 in
theorem keep_value (k n : Int) (f : Nat) (s : ByteArray) (k' n' : Int) (f' : Nat) (s' : ByteArray) (w : World) :
    Calls Tryd.prog 16 #[V k n f s, V k' n' f' s'] w fun e w' => e = .returned (.bool (sameB k n f s.toList k' n' f' s'.toList)) ∧ Below w.heap.size w w' := by
  have e35 := bits_ext
  have hf := cast_beq f f'
  cases h1 : (k == k')
  · go_enter Tryd.func16, Tryd.ntmps16
    go_wp2
    go_quiet (fail)
    go_wp2
    go_ret
    exact ⟨by unfold sameB; rw [h1]; rfl, below_drewN (((Below.refl _ _).alloc (Nat.le_refl _) _).alloc (by simp) _) _⟩
  · cases h2 : (n == n')
    · go_enter Tryd.func16, Tryd.ntmps16
      go_wp2
      go_quiet (fail)
      go_wp2
      go_ret
      exact ⟨by unfold sameB; rw [h1, h2]; rfl, below_drewN (((Below.refl _ _).alloc (Nat.le_refl _) _).alloc (by simp) _) _⟩
    · cases h3 : (f == f')
      · rw [h3] at hf
        go_enter Tryd.func16, Tryd.ntmps16
        go_wp2
        go_quiet (fail)
        go_wp2
        go_ret
        exact ⟨by unfold sameB; rw [h1, h2, h3]; rfl, below_drewN (((Below.refl _ _).alloc (Nat.le_refl _) _).alloc (by simp) _) _⟩
      · rw [h3] at hf
        go_enter Tryd.func16, Tryd.ntmps16
        go_wp2
        go_quiet (fail)
        go_wp2
        go_ret
        exact ⟨by unfold sameB; rw [h1, h2, h3]; rfl, below_drewN (((Below.refl _ _).alloc (Nat.le_refl _) _).alloc (by simp) _) _⟩

end Go.Proofs.YticjfnglciomhaaDoor
