/-
  The walks over a value's key (the reference's): Of, Entry, Least, After.
-/
import Derived.Test.YticjfnglciomhaaDoorK4
namespace Go.Proofs.YticjfnglciomhaaDoor
open Go.RowKit

theorem app_list (r t : ByteArray) : (r ++ t).toList = r.toList ++ t.toList := by
  rw [ByteArray.toList_eq, ByteArray.toList_eq, ByteArray.toList_eq, ByteArray.data_append, Array.toList_append]
theorem one_list (l : List UInt8) : (⟨l.toArray⟩ : ByteArray).toList = l := ByteArray.toList_mk l
theorem str_of_list {r : ByteArray} {l : List UInt8} (h : r.toList = l) : r = ⟨l.toArray⟩ := by
  rw [← h, ByteArray.toList_eq, Array.toArray_toList]
theorem esc_snoc (l : List UInt8) (c : UInt8) : escL (l ++ [c]) = escL l ++ if c = 0 then [0, 255] else [c] := by
  induction l with
  | nil => by_cases h : c = 0 <;> simp [escL, h]
  | cons a l ih => simp only [List.cons_append, escL, ih]; split <;> simp
theorem rof_step0 {s r : ByteArray} {i : Nat} (h : i < s.size) (hz : ((s[i].toNat : Int) == 0) = true) (hr : r.toList = 4 :: escL (s.toList.take i)) :
    (r ++ ⟨#[s[i]]⟩ ++ ⟨#[255]⟩).toList = 4 :: escL (s.toList.take (i + 1)) := by
  have hc : s[i] = 0 := UInt8.toNat_inj.1 (by have := beq_iff_eq.1 hz; simp; omega)
  rw [app_list, app_list, one_list [s[i]], one_list [255], take_snoc s i h, esc_snoc, hr, if_pos hc, hc]; simp
theorem rof_step1 {s r : ByteArray} {i : Nat} (h : i < s.size) (hz : ((s[i].toNat : Int) == 0) = false) (hr : r.toList = 4 :: escL (s.toList.take i)) :
    (r ++ ⟨#[s[i]]⟩).toList = 4 :: escL (s.toList.take (i + 1)) := by
  have hc : s[i] ≠ 0 := fun e => by rw [e] at hz; simp at hz
  rw [app_list, one_list [s[i]], take_snoc s i h, esc_snoc, hr, if_neg hc]; simp

set_option maxHeartbeats 1000000 in
set_option maxRecDepth 100000 in
theorem rof_no (k n : Int) (f : Nat) (s : ByteArray) (h : goodV k n f s.toList = false) (w : World) :
    Calls Tryd.prog 20 #[V k n f s] w fun e w' => e = .returned (.tuple #[.string ⟨#[]⟩, .int .i64 11]) ∧ Below w.heap.size w w' := by
  go_enter Tryd.func20, Tryd.ntmps20
  go_wp2_with (go_at_call 9; refine (good_ref _ _ _ _ _).mono ?_; rintro e w1 ⟨rfl, hb⟩; obtain ⟨c0, c1, c2, c3, hs, HB⟩ := box4 hb; clear hb)
  go_ret2
  exact ⟨rfl, HB.out⟩

set_option maxHeartbeats 1000000 in
set_option maxRecDepth 100000 in
theorem rof_0 (n : Int) (f : Nat) (s : ByteArray) (h : goodV 0 n f s.toList = true) (w : World) :
    Calls Tryd.prog 20 #[V 0 n f s] w fun e w' => e = .returned (.tuple #[.string ⟨(keyL 0 n f s.toList).toArray⟩, .int .i64 0]) ∧ Below w.heap.size w w' := by
  have k1 := conv1
  go_enter Tryd.func20, Tryd.ntmps20
  go_wp2_with (go_at_call 9; refine (good_ref _ _ _ _ _).mono ?_; rintro e w1 ⟨rfl, hb⟩; obtain ⟨c0, c1, c2, c3, hs, HB⟩ := box4 hb; clear hb)
  go_ret2
  exact ⟨rfl, HB.out.alloc (Nat.le_of_lt hs) _⟩

set_option maxHeartbeats 1000000 in
set_option maxRecDepth 100000 in
theorem rof_1 (n : Int) (f : Nat) (s : ByteArray) (h : goodV 1 n f s.toList = true) (w : World) :
    Calls Tryd.prog 20 #[V 1 n f s] w fun e w' => e = .returned (.tuple #[.string ⟨(keyL 1 n f s.toList).toArray⟩, .int .i64 0]) ∧ Below w.heap.size w w' := by
  have k1 := conv1
  have hn : n = 0 ∨ n = 1 := by rcases KeyW.good_cases h with ⟨c, _⟩ | ⟨_, c, _⟩ | ⟨c, _⟩ | ⟨c, _⟩ | ⟨c, _⟩ <;> first | exact c | exact absurd c (by decide)
  have HN := Lib.hid (bool_byte n hn)
  clear hn
  go_enter Tryd.func20, Tryd.ntmps20
  go_wp2_with (go_at_call 9; refine (good_ref _ _ _ _ _).mono ?_; rintro e w1 ⟨rfl, hb⟩; obtain ⟨c0, c1, c2, c3, hs, HB⟩ := box4 hb; clear hb)
  go_ret2
  exact ⟨ret_key (by rw [HN.out]; rfl) 0, ((HB.out.alloc (Nat.le_of_lt hs) _).alloc (by simp; omega) _)⟩

set_option maxHeartbeats 1000000 in
set_option maxRecDepth 100000 in
theorem rof_4 (n : Int) (f : Nat) (s : ByteArray) (h : goodV 4 n f s.toList = true) (w : World) :
    Calls Tryd.prog 20 #[V 4 n f s] w fun e w' => e = .returned (.tuple #[.string ⟨(keyL 4 n f s.toList).toArray⟩, .int .i64 0]) ∧ Below w.heap.size w w' := by
  have k1 := conv1
  have hl : s.size ≤ 256 := by
    rw [← len_list]
    rcases KeyW.good_cases h with ⟨c, _⟩ | ⟨c, _⟩ | ⟨c, _⟩ | ⟨c, _⟩ | ⟨_, _, _, c⟩ <;> first | exact c | exact absurd c (by decide)
  go_enter Tryd.func20, Tryd.ntmps20
  go_wp2_with (go_at_call 9; refine (good_ref _ _ _ _ _).mono ?_; rintro e w1 ⟨rfl, hb⟩; obtain ⟨c0, c1, c2, c3, hs, HB⟩ := box4 hb; clear hb)
  go_loopw [4, 5] (fun u4 u5 wr => ∃ (i : Nat) (r : ByteArray), i ≤ s.size ∧ u5 = .int .i64 i ∧ u4 = .string r ∧ r.size ≤ 2 * i + 1 ∧ Hid (r.toList = 4 :: escL (s.toList.take i)) ∧
      wr.cell? ⟨w.heap.size, 3, none⟩ = some (.string s) ∧ w.heap.size < wr.heap.size ∧ Hid (Below w.heap.size w wr)) (fun _ u5 _ => s.size - (intOf u5).toNat)
  case atStart => exact ⟨0, ⟨#[4]⟩, by omega, rfl, rfl, by show 1 ≤ _; omega, Lib.hid (by simp [escL]), cell_alloc c3 _, by simp; omega, Lib.hid (HB.out.alloc (Nat.le_of_lt hs) _)⟩
  case round =>
    clear c0 c1 c2 c3 hs HB
    obtain ⟨i, r, hi, rfl, rfl, hr, HR, c3, hs, HB⟩ := hrel
    by_cases hlt : i < s.size
    · cases hz : ((s[i].toNat : Int) == 0)
      · have HS := Lib.hid (rof_step1 hlt hz HR.out)
        go_wp2
        go_roundw
        case rel => exact ⟨i + 1, _, by omega, by go_num, rfl, by rw [ByteArray.size_append]; show _ + 1 ≤ _; omega, HS, cell_alloc c3 _, by simp; omega, Lib.hid (HB.out.alloc (Nat.le_of_lt hs) _)⟩
        case measure => simp [intOf]; omega
      · have HS := Lib.hid (rof_step0 hlt hz HR.out)
        go_wp2
        go_roundw
        case rel => exact ⟨i + 1, _, by omega, by go_num, rfl, by rw [ByteArray.size_append, ByteArray.size_append]; show _ + 1 + 1 ≤ _; omega, HS, cell_alloc c3 _, by simp; omega, Lib.hid (HB.out.alloc (Nat.le_of_lt hs) _)⟩
        case measure => simp [intOf]; omega
    · have hfin : r.toList = 4 :: escL s.toList := by rw [HR.out, List.take_of_length_le (by rw [len_list]; omega)]
      have HF := Lib.hid hfin
      clear hfin
      go_wp2
      go_ret2
      exact ⟨ret_key (str_of_list (by rw [app_list, HF.out, one_list [0, 1]]; rfl)) 0, HB.out⟩

end Go.Proofs.YticjfnglciomhaaDoor
