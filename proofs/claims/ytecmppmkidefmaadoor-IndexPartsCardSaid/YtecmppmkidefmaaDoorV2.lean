/-
  The walks over the reference's values: Good, Compare; and the statements' helpers on values.
-/
import Derived.Test.YtecmppmkidefmaaDoorV
namespace Go.Proofs.YtecmppmkidefmaaDoor
open Go.RowKit

set_option maxHeartbeats 1000000 in
theorem good_ref (k n : Int) (f : Nat) (s : ByteArray) (w : World) :
    Calls Tryd.prog 14 #[V k n f s] w fun e w' => e = .returned (.bool (goodV k n f s.toList)) ∧ Below w.heap.size w w' := by
  go_enter Tryd.func14, Tryd.ntmps14
  go_wp2_with (first | (go_at_call 28; refine (plain_ref _ _).mono ?_; rintro e w' ⟨rfl, rfl⟩) | (go_at_call 29; refine (is_ref _ _).mono ?_; rintro e w' ⟨rfl, rfl⟩))
  all_goals go_ret
  all_goals refine ⟨?_, (Below.refl _ _).alloc (Nat.le_refl _) _⟩
  all_goals first | (simp [goodV, *]; done) | (simp_all [goodV]; done) | (simp_all [goodV, dec_size]; done)

theorem cmpV_1 {k n : Int} {f : Nat} {l : List UInt8} {k' n' : Int} {f' : Nat} {l' : List UInt8} (h : k < k') : -1 = cmpV k n f l k' n' f' l' := by unfold cmpV; rw [if_pos h]
theorem cmpV_2 {k n : Int} {f : Nat} {l : List UInt8} {k' n' : Int} {f' : Nat} {l' : List UInt8} (h : k' < k) : 1 = cmpV k n f l k' n' f' l' := by unfold cmpV; rw [if_neg (by omega), if_pos h]
theorem cmpV_3 {k n : Int} {f : Nat} {l : List UInt8} {k' n' : Int} {f' : Nat} {l' : List UInt8} (h0 : k' ≤ k) (h1 : k ≤ k') (h : n < n') : -1 = cmpV k n f l k' n' f' l' := by unfold cmpV; rw [if_neg (by omega), if_neg (by omega), if_pos h]
theorem cmpV_4 {k n : Int} {f : Nat} {l : List UInt8} {k' n' : Int} {f' : Nat} {l' : List UInt8} (h0 : k' ≤ k) (h1 : k ≤ k') (h : n' < n) : 1 = cmpV k n f l k' n' f' l' := by unfold cmpV; rw [if_neg (by omega), if_neg (by omega), if_neg (by omega), if_pos h]
theorem cmpV_rest {k n : Int} {f : Nat} {l : List UInt8} {k' n' : Int} {f' : Nat} {l' : List UInt8} (h0 : k' ≤ k) (h1 : k ≤ k') (h2 : n' ≤ n) (h3 : n ≤ n') : cmpV k n f l k' n' f' l' = if cmpF f f' ≠ 0 then cmpF f f' else cmpL l l' := by
  unfold cmpV; rw [if_neg (by omega), if_neg (by omega), if_neg (by omega), if_neg (by omega)]
theorem cmpV_5 {k n : Int} {f : Nat} {l : List UInt8} {k' n' : Int} {f' : Nat} {l' : List UInt8} (h0 : k' ≤ k) (h1 : k ≤ k') (h2 : n' ≤ n) (h3 : n ≤ n') (h : (cmpF f f' != 0) = true) : cmpF f f' = cmpV k n f l k' n' f' l' := by
  rw [cmpV_rest h0 h1 h2 h3, if_pos (bne_iff_ne.1 h)]
theorem cmpV_6 {k n : Int} {f : Nat} {l : List UInt8} {k' n' : Int} {f' : Nat} {l' : List UInt8} (h0 : k' ≤ k) (h1 : k ≤ k') (h2 : n' ≤ n) (h3 : n ≤ n') (h : (cmpF f f' != 0) = false) (g : Op.bytesLess l l' = true) : -1 = cmpV k n f l k' n' f' l' := by
  rw [cmpV_rest h0 h1 h2 h3, if_neg (by simpa using h)]; unfold cmpL; rw [if_pos g]
theorem cmpV_7 {k n : Int} {f : Nat} {l : List UInt8} {k' n' : Int} {f' : Nat} {l' : List UInt8} (h0 : k' ≤ k) (h1 : k ≤ k') (h2 : n' ≤ n) (h3 : n ≤ n') (h : (cmpF f f' != 0) = false) (g : Op.bytesLess l l' = false) (e : (!(l == l')) = true) : 1 = cmpV k n f l k' n' f' l' := by
  rw [cmpV_rest h0 h1 h2 h3, if_neg (by simpa using h)]; unfold cmpL
  rcases KeyW.less_total l l' with x | x | x
  · rw [x] at g; cases g
  · subst x; simp at e
  · simp [g, x]
theorem cmpV_8 {k n : Int} {f : Nat} {l : List UInt8} {k' n' : Int} {f' : Nat} {l' : List UInt8} (h0 : k' ≤ k) (h1 : k ≤ k') (h2 : n' ≤ n) (h3 : n ≤ n') (h : (cmpF f f' != 0) = false) (e : (!(l == l')) = false) : 0 = cmpV k n f l k' n' f' l' := by
  rw [cmpV_rest h0 h1 h2 h3, if_neg (by simpa using h)]
  exact ((KeyW.cmpL_eq l l').2 (by simpa using e)).symm

set_option maxHeartbeats 1000000 in
theorem cmp_ref (k n : Int) (f : Nat) (s : ByteArray) (k' n' : Int) (f' : Nat) (s' : ByteArray) (w : World) :
    Calls Tryd.prog 15 #[V k n f s, V k' n' f' s'] w fun e w' => e = .returned (.int .i64 (cmpV k n f s.toList k' n' f' s'.toList)) ∧ Below w.heap.size w w' := by
  go_enter Tryd.func15, Tryd.ntmps15
  go_wp2_with (go_at_call 30; refine (cmpf_ref _ _ _).mono ?_; rintro e w' ⟨rfl, rfl⟩)
  all_goals go_ret
  all_goals refine ⟨?_, ((Below.refl _ _).alloc (Nat.le_refl _) _).alloc (by simp) _⟩
  · exact ret_int (cmpV_1 (by assumption))
  · exact ret_int (cmpV_2 (by assumption))
  · exact ret_int (cmpV_3 (by assumption) (by assumption) (by assumption))
  · exact ret_int (cmpV_4 (by assumption) (by assumption) (by assumption))
  · exact ret_int (cmpV_5 (by assumption) (by assumption) (by assumption) (by assumption) (by assumption))
  · exact ret_int (cmpV_6 (by assumption) (by assumption) (by assumption) (by assumption) (by assumption) (by assumption))
  · exact ret_int (cmpV_7 (by assumption) (by assumption) (by assumption) (by assumption) (by assumption) (by assumption) (by assumption))
  · exact ret_int (cmpV_8 (by assumption) (by assumption) (by assumption) (by assumption) (by assumption) (by assumption))

set_option maxHeartbeats 400000 in
theorem large_any (k n : Int) (f : Nat) (s : ByteArray) (w : World) :
    Calls Tryd.prog 18 #[V k n f s] w fun e w' => e = .returned (.bool (decide (2000 < (s.size : Int)))) ∧ Below w.heap.size w w' := by
  go_enter Tryd.func18, Tryd.ntmps18
  go_wp2
  go_ret
  exact ⟨rfl, (Below.refl _ _).alloc (Nat.le_refl _) _⟩

end Go.Proofs.YtecmppmkidefmaaDoor
