/-
  The walks over a value's key (the reference's): Of, Entry, Least, After.
-/
import Derived.Test.YtecmppmkidefmaaDoorK4
namespace Go.Proofs.YtecmppmkidefmaaDoor
open Go.RowKit

theorem app_list (r t : ByteArray) : (r ++ t).toList = r.toList ++ t.toList := by
  rw [ByteArray.toList_eq, ByteArray.toList_eq, ByteArray.toList_eq, ByteArray.data_append, Array.toList_append]
theorem one_list (l : List UInt8) : (⟨l.toArray⟩ : ByteArray).toList = l := ByteArray.toList_mk l
theorem str_of_list {r : ByteArray} {l : List UInt8} (h : r.toList = l) : r = ⟨l.toArray⟩ := by
  rw [← h, ByteArray.toList_eq, Array.toArray_toList]
theorem esc_snoc (l : List UInt8) (c : UInt8) : escL (l ++ [c]) = escL l ++ if c = 0 then [0, 255] else [c] := by
  induction l with
  | nil => by_cases h : c = 0 <;> simp [escL, h]
  | cons a l ih => simp only [List.cons_append, escL, ih]; split <;> simp
theorem rof_step0 {s r : ByteArray} {i : Nat} (h : i < s.size) (hz : ((s[i].toNat : Int) == 0) = true) (hr : r.toList = 4 :: escL (s.toList.take i)) :
    (r ++ ⟨#[s[i]]⟩ ++ ⟨#[255]⟩).toList = 4 :: escL (s.toList.take (i + 1)) := by
  have hc : s[i] = 0 := UInt8.toNat_inj.1 (by have := beq_iff_eq.1 hz; simp; omega)
  rw [app_list, app_list, one_list [s[i]], one_list [255], take_snoc s i h, esc_snoc, hr, if_pos hc, hc]; simp
theorem rof_step1 {s r : ByteArray} {i : Nat} (h : i < s.size) (hz : ((s[i].toNat : Int) == 0) = false) (hr : r.toList = 4 :: escL (s.toList.take i)) :
    (r ++ ⟨#[s[i]]⟩).toList = 4 :: escL (s.toList.take (i + 1)) := by
  have hc : s[i] ≠ 0 := fun e => by rw [e] at hz; simp at hz
  rw [app_list, one_list [s[i]], take_snoc s i h, esc_snoc, hr, if_neg hc]; simp

end Go.Proofs.YtecmppmkidefmaaDoor
