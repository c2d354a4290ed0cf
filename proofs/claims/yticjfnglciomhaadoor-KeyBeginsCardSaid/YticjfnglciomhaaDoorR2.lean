/-
  The walks over a value's key (the reference's), the rest: Of, Entry, Least, After.
-/
import Derived.Test.YticjfnglciomhaaDoorR1
namespace Go.Proofs.YticjfnglciomhaaDoor
open Go.RowKit

set_option maxHeartbeats 1000000 in
set_option maxRecDepth 100000 in
theorem rof_2 (n : Int) (f : Nat) (s : ByteArray) (h : goodV 2 n f s.toList = true) (hn : -9223372036854775808 ≤ n ∧ n ≤ 9223372036854775807) (w : World) :
    Calls Tryd.prog 20 #[V 2 n f s] w fun e w' => e = .returned (.tuple #[.string ⟨(keyL 2 n f s.toList).toArray⟩, .int .i64 0]) ∧ Below w.heap.size w w' := by
  have k1 := conv1
  obtain ⟨q, hq, hq0, hq1, hqn⟩ := flip_q n hn
  have HQ := Lib.hid hq0
  have HQ2 := Lib.hid hq1
  have HN := Lib.hid hqn
  have he : (⟨(eightL q.toNat).toArray⟩ : ByteArray).size = 8 := rfl
  clear hn hq0 hqn hq1
  go_enter Tryd.func20, Tryd.ntmps20
  go_wp2_with (first | (go_at_call 9; refine (good_ref _ _ _ _ _).mono ?_; rintro e w1 ⟨rfl, hb⟩; obtain ⟨c0, c1, c2, c3, hs, HB⟩ := box4 hb; clear hb) | (go_at_call 37; refine (eight_ref _ HQ.out HQ2.out _).mono ?_; rintro e w2 ⟨rfl, hb⟩; have H2 := Lib.hid hb; have hz : w1.heap.size + 1 ≤ w2.heap.size := by { have := hb.size; simp at this; omega }; clear hb))
  go_ret2
  exact ⟨ret_key (str_of_list (by rw [app_list, one_list [2], one_list, HN.out]; rfl)) 0, (HB.out.alloc (Nat.le_of_lt hs) _).trans (H2.out.mono (by simp; omega))⟩

set_option maxHeartbeats 1000000 in
set_option maxRecDepth 100000 in
theorem rof_3 (n : Int) (f : Nat) (s : ByteArray) (h : goodV 3 n f s.toList = true) (hf : f < 18446744073709551616) (w : World) :
    Calls Tryd.prog 20 #[V 3 n f s] w fun e w' => e = .returned (.tuple #[.string ⟨(keyL 3 n f s.toList).toArray⟩, .int .i64 0]) ∧ Below w.heap.size w w' := by
  have k1 := conv1
  have HF := Lib.hid hf
  have HQ := Lib.hid (Int.natCast_nonneg (bitsF f))
  have HQ2 := Lib.hid (show ((bitsF f : Nat) : Int) ≤ 18446744073709551615 by have := FloatW.bits_lt f hf; omega)
  have he : (⟨(eightL (bitsF f)).toArray⟩ : ByteArray).size = 8 := rfl
  clear hf
  go_enter Tryd.func20, Tryd.ntmps20
  go_wp2_with (first | (go_at_call 9; refine (good_ref _ _ _ _ _).mono ?_; rintro e w1 ⟨rfl, hb⟩; obtain ⟨c0, c1, c2, c3, hs, HB⟩ := box4 hb; clear hb) | (go_at_call 38; refine (bits_ref _ HF.out _).mono ?_; rintro e w' ⟨rfl, rfl⟩) | (go_at_call 37; refine (eight_ref _ HQ.out HQ2.out _).mono ?_; rintro e w2 ⟨rfl, hb⟩; have H2 := Lib.hid hb; have hz : w1.heap.size + 1 ≤ w2.heap.size := by { have := hb.size; simp at this; omega }; clear hb))
  go_ret2
  exact ⟨ret_key (str_of_list (by rw [app_list, one_list [3], one_list]; rfl)) 0, (HB.out.alloc (Nat.le_of_lt hs) _).trans (H2.out.mono (by simp; omega))⟩

theorem rof_any (k n : Int) (f : Nat) (s : ByteArray) (hn : -9223372036854775808 ≤ n ∧ n ≤ 9223372036854775807) (hf : f < 18446744073709551616) (w : World) :
    Calls Tryd.prog 20 #[V k n f s] w fun e w' => e = .returned (.tuple #[.string ⟨(ofK k n f s.toList).toArray⟩, .int .i64 (ofE k n f s.toList)]) ∧ Below w.heap.size w w' := by
  unfold ofK ofE
  cases h : goodV k n f s.toList
  · exact rof_no k n f s h w
  · simp only [if_true]
    rcases KeyW.good_cases h with ⟨rfl, _⟩ | ⟨rfl, _⟩ | ⟨rfl, _⟩ | ⟨rfl, _⟩ | ⟨rfl, _⟩
    · exact rof_0 n f s h w
    · exact rof_1 n f s h w
    · exact rof_2 n f s h hn w
    · exact rof_3 n f s h hf w
    · exact rof_4 n f s h w
theorem rof_yes (k n : Int) (f : Nat) (s : ByteArray) (h : goodV k n f s.toList = true) (hn : -9223372036854775808 ≤ n ∧ n ≤ 9223372036854775807) (hf : f < 18446744073709551616) (w : World) :
    Calls Tryd.prog 20 #[V k n f s] w fun e w' => e = .returned (.tuple #[.string ⟨(keyL k n f s.toList).toArray⟩, .int .i64 0]) ∧ Below w.heap.size w w' := by
  have := rof_any k n f s hn hf w
  unfold ofK ofE at this
  rw [h] at this
  exact this

set_option maxHeartbeats 1000000 in
set_option maxRecDepth 100000 in
theorem rentry_no (k n : Int) (f : Nat) (s : ByteArray) (t : Int) (h : goodV k n f s.toList = false) (w : World) :
    Calls Tryd.prog 21 #[V k n f s, .int .i64 t] w fun e w' => e = .returned (.tuple #[.string ⟨#[]⟩, .int .i64 11]) ∧ Below w.heap.size w w' := by
  go_enter Tryd.func21, Tryd.ntmps21
  go_wp2_with (go_at_call 20; refine (rof_no _ _ _ _ h _).mono ?_; rintro e w1 ⟨rfl, hb⟩; obtain ⟨c0, c1, c2, c3, hs, HB⟩ := box4 hb; clear hb)
  go_ret2
  exact ⟨rfl, HB.out⟩

set_option maxHeartbeats 1000000 in
set_option maxRecDepth 100000 in
theorem rentry_out (k n : Int) (f : Nat) (s : ByteArray) (t : Int) (ht : t < 0 ∨ 65535 < t) (h : goodV k n f s.toList = true) (hn : -9223372036854775808 ≤ n ∧ n ≤ 9223372036854775807) (hf : f < 18446744073709551616) (w : World) :
    Calls Tryd.prog 21 #[V k n f s, .int .i64 t] w fun e w' => e = .returned (.tuple #[.string ⟨#[]⟩, .int .i64 1]) ∧ Below w.heap.size w w' := by
  have HN := Lib.hid hn
  have HF := Lib.hid hf
  clear hn hf
  rcases ht with ht | ht
  · go_enter Tryd.func21, Tryd.ntmps21
    go_wp2_with (go_at_call 20; refine (rof_yes _ _ _ _ h HN.out HF.out _).mono ?_; rintro e w1 ⟨rfl, hb⟩; obtain ⟨c0, c1, c2, c3, hs, HB⟩ := box4 hb; clear hb)
    go_ret2
    exact ⟨rfl, HB.out⟩
  · have ht2 : ¬ t < 0 := by omega
    go_enter Tryd.func21, Tryd.ntmps21
    go_wp2_with (go_at_call 20; refine (rof_yes _ _ _ _ h HN.out HF.out _).mono ?_; rintro e w1 ⟨rfl, hb⟩; obtain ⟨c0, c1, c2, c3, hs, HB⟩ := box4 hb; clear hb)
    go_ret2
    exact ⟨rfl, HB.out⟩

set_option maxHeartbeats 1000000 in
set_option maxRecDepth 100000 in
theorem rentry_in (k n : Int) (f : Nat) (s : ByteArray) (t : Int) (ht0 : 0 ≤ t) (ht1 : t ≤ 65535) (h : goodV k n f s.toList = true) (hn : -9223372036854775808 ≤ n ∧ n ≤ 9223372036854775807) (hf : f < 18446744073709551616) (w : World) :
    Calls Tryd.prog 21 #[V k n f s, .int .i64 t] w fun e w' => e = .returned (.tuple #[.string ⟨(entryL k n f s.toList t.toNat).toArray⟩, .int .i64 0]) ∧ Below w.heap.size w w' := by
  have HN := Lib.hid hn
  have HF := Lib.hid hf
  have hl := key_short h
  have hsz : (⟨(keyL k n f s.toList).toArray⟩ : ByteArray).size = (keyL k n f s.toList).length := rfl
  have k2 := conv2
  have HT := Lib.hid (tail_eq t ht0)
  clear hn hf
  go_enter Tryd.func21, Tryd.ntmps21
  go_wp2_with (go_at_call 20; refine (rof_yes _ _ _ _ h HN.out HF.out _).mono ?_; rintro e w1 ⟨rfl, hb⟩; obtain ⟨c0, c1, c2, c3, hs, HB⟩ := box4 hb; clear hb)
  go_ret2
  exact ⟨ret_key (str_of_list (by rw [app_list, one_list, one_list [_, _], HT.out]; rfl)) 0, HB.out.alloc (Nat.le_of_lt hs) _⟩

/-- What the reference's Entry answers, whatever it is given. -/
theorem rentry_any (k n : Int) (f : Nat) (s : ByteArray) (t : Int) (hn : -9223372036854775808 ≤ n ∧ n ≤ 9223372036854775807) (hf : f < 18446744073709551616) (w : World) :
    Calls Tryd.prog 21 #[V k n f s, .int .i64 t] w fun e w' => e = .returned (.tuple #[.string ⟨(entryK k n f s.toList t).toArray⟩, .int .i64 (entryE k n f s.toList t)]) ∧ Below w.heap.size w w' := by
  unfold entryK entryE
  cases h : goodV k n f s.toList
  · exact rentry_no k n f s t h w
  · by_cases ht : 0 ≤ t ∧ t ≤ 65535
    · simp only [if_true, if_pos ht]; exact rentry_in k n f s t ht.1 ht.2 h hn hf w
    · simp only [if_true, if_neg ht]; exact rentry_out k n f s t (by omega) h hn hf w

set_option maxHeartbeats 1000000 in
set_option maxRecDepth 100000 in
theorem rleast_any (k n : Int) (f : Nat) (s : ByteArray) (hn : -9223372036854775808 ≤ n ∧ n ≤ 9223372036854775807) (hf : f < 18446744073709551616) (w : World) :
    Calls Tryd.prog 23 #[V k n f s] w fun e w' => e = .returned (.tuple #[.string ⟨(entryK k n f s.toList 0).toArray⟩, .int .i64 (entryE k n f s.toList 0)]) ∧ Below w.heap.size w w' := by
  have HN := Lib.hid hn
  have HF := Lib.hid hf
  clear hn hf
  go_enter Tryd.func23, Tryd.ntmps23
  go_wp2_with (go_at_call 21; refine (rentry_any _ _ _ _ _ HN.out HF.out _).mono ?_; rintro e w1 ⟨rfl, hb⟩; obtain ⟨c0, c1, c2, c3, hs, HB⟩ := box4 hb; clear hb)
  go_ret2
  exact ⟨rfl, HB.out⟩

set_option maxHeartbeats 1000000 in
set_option maxRecDepth 100000 in
theorem rafter_any (k n : Int) (f : Nat) (s : ByteArray) (hn : -9223372036854775808 ≤ n ∧ n ≤ 9223372036854775807) (hf : f < 18446744073709551616) (w : World) :
    Calls Tryd.prog 25 #[V k n f s] w fun e w' => e = .returned (.tuple #[.string ⟨(afterK k n f s.toList).toArray⟩, .int .i64 (ofE k n f s.toList)]) ∧ Below w.heap.size w w' := by
  have HN := Lib.hid hn
  have HF := Lib.hid hf
  clear hn hf
  unfold afterK ofE
  cases h : goodV k n f s.toList
  · go_enter Tryd.func25, Tryd.ntmps25
    go_wp2_with (go_at_call 21; refine (rentry_no _ _ _ _ _ h _).mono ?_; rintro e w1 ⟨rfl, hb⟩; obtain ⟨c0, c1, c2, c3, hs, HB⟩ := box4 hb; clear hb)
    go_ret2
    exact ⟨rfl, HB.out⟩
  · have hl := key_short h
    have hsz : (⟨(entryL k n f s.toList 65535).toArray⟩ : ByteArray).size = (keyL k n f s.toList).length + 2 := by show (entryL _ _ _ _ _).length = _; simp [entryL]
    go_enter Tryd.func25, Tryd.ntmps25
    go_wp2_with (go_at_call 21; refine (rentry_in _ _ _ _ 65535 (by decide) (by decide) h HN.out HF.out _).mono ?_; rintro e w1 ⟨rfl, hb⟩; obtain ⟨c0, c1, c2, c3, hs, HB⟩ := box4 hb; clear hb)
    go_ret2
    exact ⟨ret_key (str_of_list (by rw [app_list, one_list, one_list [0]])) 0, HB.out⟩

end Go.Proofs.YticjfnglciomhaaDoor
