/-
  The walks over an entry's key (the program's): Entry, Least, After.
-/
import Derived.Test.YtecmppmkidefmaaDoorK3
namespace Go.Proofs.YtecmppmkidefmaaDoor
open Go.RowKit

theorem of_yes (k n : Int) (f : Nat) (s : ByteArray) (h : goodV k n f s.toList = true) (hn : -9223372036854775808 ≤ n ∧ n ≤ 9223372036854775807) (hf : f < 18446744073709551616) (w : World) (hM : MaxAt w) :
    Calls Tryd.prog 34 #[V k n f s] w fun e w' => e = .returned (.tuple #[.string ⟨(keyL k n f s.toList).toArray⟩, .int .i64 0]) ∧ Below w.heap.size w w' := by
  have := of_any k n f s hn hf w hM
  unfold ofK ofE at this
  rw [h] at this
  exact this

/-- What Entry answers. -/
def entryK (k n : Int) (f : Nat) (l : List UInt8) (t : Int) : List UInt8 := if goodV k n f l then (if 0 ≤ t ∧ t ≤ 65535 then entryL k n f l t.toNat else []) else []
def entryE (k n : Int) (f : Nat) (l : List UInt8) (t : Int) : Int := if goodV k n f l then (if 0 ≤ t ∧ t ≤ 65535 then 0 else 1) else 11

set_option maxHeartbeats 1000000 in
set_option maxRecDepth 100000 in
theorem entry_no (k n : Int) (f : Nat) (s : ByteArray) (t : Int) (h : goodV k n f s.toList = false) (w : World) :
    Calls Tryd.prog 22 #[V k n f s, .int .i64 t] w fun e w' => e = .returned (.tuple #[.string ⟨#[]⟩, .int .i64 11]) ∧ Below w.heap.size w w' := by
  go_enter Tryd.func22, Tryd.ntmps22
  go_wp2_with (go_at_call 34; refine (of_no _ _ _ _ h _).mono ?_; rintro e w1 ⟨rfl, hb⟩; obtain ⟨c0, c1, c2, c3, hs, HB⟩ := box4 hb; clear hb)
  go_ret2
  exact ⟨rfl, HB.out⟩

set_option maxHeartbeats 1000000 in
set_option maxRecDepth 100000 in
theorem entry_out (k n : Int) (f : Nat) (s : ByteArray) (t : Int) (ht : t < 0 ∨ 65535 < t) (h : goodV k n f s.toList = true) (hn : -9223372036854775808 ≤ n ∧ n ≤ 9223372036854775807) (hf : f < 18446744073709551616) (w : World) (hM : MaxAt w) :
    Calls Tryd.prog 22 #[V k n f s, .int .i64 t] w fun e w' => e = .returned (.tuple #[.string ⟨#[]⟩, .int .i64 1]) ∧ Below w.heap.size w w' := by
  have HN := Lib.hid hn
  have HF := Lib.hid hf
  clear hn hf
  rcases ht with ht | ht
  · go_enter Tryd.func22, Tryd.ntmps22
    go_wp2_with (go_at_call 34; refine (of_yes _ _ _ _ h HN.out HF.out _ (hM.alloc _)).mono ?_; rintro e w1 ⟨rfl, hb⟩; obtain ⟨c0, c1, c2, c3, hs, HB⟩ := box4 hb; clear hb)
    go_ret2
    exact ⟨rfl, HB.out⟩
  · have ht2 : ¬ t < 0 := by omega
    go_enter Tryd.func22, Tryd.ntmps22
    go_wp2_with (go_at_call 34; refine (of_yes _ _ _ _ h HN.out HF.out _ (hM.alloc _)).mono ?_; rintro e w1 ⟨rfl, hb⟩; obtain ⟨c0, c1, c2, c3, hs, HB⟩ := box4 hb; clear hb)
    go_ret2
    exact ⟨rfl, HB.out⟩

theorem key_short {k n : Int} {f : Nat} {l : List UInt8} (h : goodV k n f l = true) : (keyL k n f l).length ≤ 521 := by
  have h1 := @KeyW.keyL_length k n f l
  have h2 : l.length ≤ 256 := by
    rcases KeyW.good_cases h with ⟨_, _, _, rfl⟩ | ⟨_, _, _, rfl⟩ | ⟨_, _, rfl⟩ | ⟨_, _, _, rfl⟩ | ⟨_, _, _, c⟩ <;> first | exact c | simp
  omega

theorem tail_eq (t : Int) (h : 0 ≤ t) : [UInt8.ofNat (t / 256).toNat, UInt8.ofNat (t % 256).toNat] = [(t.toNat / 256).toUInt8, (t.toNat % 256).toUInt8] := by
  rw [show (t / 256).toNat = t.toNat / 256 by omega, show (t % 256).toNat = t.toNat % 256 by omega]

set_option maxHeartbeats 1000000 in
set_option maxRecDepth 100000 in
theorem entry_in (k n : Int) (f : Nat) (s : ByteArray) (t : Int) (ht0 : 0 ≤ t) (ht1 : t ≤ 65535) (h : goodV k n f s.toList = true) (hn : -9223372036854775808 ≤ n ∧ n ≤ 9223372036854775807) (hf : f < 18446744073709551616) (w : World) (hM : MaxAt w) :
    Calls Tryd.prog 22 #[V k n f s, .int .i64 t] w fun e w' => e = .returned (.tuple #[.string ⟨(entryL k n f s.toList t.toNat).toArray⟩, .int .i64 0]) ∧ Below w.heap.size w w' := by
  have HN := Lib.hid hn
  have HF := Lib.hid hf
  have HL := Lib.hid (key_short h)
  have k2 := conv2
  have HT := Lib.hid (tail_eq t ht0)
  clear hn hf
  go_enter Tryd.func22, Tryd.ntmps22
  go_wp2_with (first | (go_at_call 34; refine (of_yes _ _ _ _ h HN.out HF.out _ (hM.alloc _)).mono ?_; rintro e w1 ⟨rfl, hb⟩; obtain ⟨c0, c1, c2, c3, hs, HB⟩ := box4 hb; clear hb) |
    (go_at_call 35; refine (joined2_new _ _ _ _ _ (by simp) (by show (keyL _ _ _ _).length + 2 ≤ _; have := HL.out; omega)).mono ?_; rintro e w3 ⟨rfl, hb⟩; have HJ := Lib.hid hb; clear hb))
  go_ret2
  exact ⟨ret_key (by rw [HT.out]; rfl) 0, (((HB.out.alloc (Nat.le_of_lt hs) _).alloc (by simp; omega) _).trans (HJ.out.mono (by simp; omega)))⟩

/-- What Entry answers, whatever it is given. -/
theorem entry_any (k n : Int) (f : Nat) (s : ByteArray) (t : Int) (hn : -9223372036854775808 ≤ n ∧ n ≤ 9223372036854775807) (hf : f < 18446744073709551616) (w : World) (hM : MaxAt w) :
    Calls Tryd.prog 22 #[V k n f s, .int .i64 t] w fun e w' => e = .returned (.tuple #[.string ⟨(entryK k n f s.toList t).toArray⟩, .int .i64 (entryE k n f s.toList t)]) ∧ Below w.heap.size w w' := by
  unfold entryK entryE
  cases h : goodV k n f s.toList
  · exact entry_no k n f s t h w
  · by_cases ht : 0 ≤ t ∧ t ≤ 65535
    · simp only [if_true, if_pos ht]; exact entry_in k n f s t ht.1 ht.2 h hn hf w hM
    · simp only [if_true, if_neg ht]; exact entry_out k n f s t (by omega) h hn hf w hM

set_option maxHeartbeats 1000000 in
set_option maxRecDepth 100000 in
theorem least_any (k n : Int) (f : Nat) (s : ByteArray) (hn : -9223372036854775808 ≤ n ∧ n ≤ 9223372036854775807) (hf : f < 18446744073709551616) (w : World) (hM : MaxAt w) :
    Calls Tryd.prog 25 #[V k n f s] w fun e w' => e = .returned (.tuple #[.string ⟨(entryK k n f s.toList 0).toArray⟩, .int .i64 (entryE k n f s.toList 0)]) ∧ Below w.heap.size w w' := by
  have HN := Lib.hid hn
  have HF := Lib.hid hf
  clear hn hf
  go_enter Tryd.func25, Tryd.ntmps25
  go_wp2_with (go_at_call 22; refine (entry_any _ _ _ _ _ HN.out HF.out _ (hM.alloc _)).mono ?_; rintro e w1 ⟨rfl, hb⟩; obtain ⟨c0, c1, c2, c3, hs, HB⟩ := box4 hb; clear hb)
  go_ret2
  exact ⟨rfl, HB.out⟩

/-- What After answers. -/
def afterK (k n : Int) (f : Nat) (l : List UInt8) : List UInt8 := if goodV k n f l then entryL k n f l 65535 ++ [0] else []

set_option maxHeartbeats 1000000 in
set_option maxRecDepth 100000 in
theorem after_any (k n : Int) (f : Nat) (s : ByteArray) (hn : -9223372036854775808 ≤ n ∧ n ≤ 9223372036854775807) (hf : f < 18446744073709551616) (w : World) (hM : MaxAt w) :
    Calls Tryd.prog 27 #[V k n f s] w fun e w' => e = .returned (.tuple #[.string ⟨(afterK k n f s.toList).toArray⟩, .int .i64 (ofE k n f s.toList)]) ∧ Below w.heap.size w w' := by
  have HN := Lib.hid hn
  have HF := Lib.hid hf
  clear hn hf
  unfold afterK ofE
  cases h : goodV k n f s.toList
  · go_enter Tryd.func27, Tryd.ntmps27
    go_wp2_with (go_at_call 22; refine (entry_no _ _ _ _ _ h _).mono ?_; rintro e w1 ⟨rfl, hb⟩; obtain ⟨c0, c1, c2, c3, hs, HB⟩ := box4 hb; clear hb)
    go_ret2
    exact ⟨rfl, HB.out⟩
  · have HL := Lib.hid (key_short h)
    go_enter Tryd.func27, Tryd.ntmps27
    go_wp2_with (first | (go_at_call 22; refine (entry_in _ _ _ _ 65535 (by decide) (by decide) h HN.out HF.out _ (hM.alloc _)).mono ?_; rintro e w1 ⟨rfl, hb⟩; obtain ⟨c0, c1, c2, c3, hs, HB⟩ := box4 hb; clear hb) |
      (go_at_call 35; refine (joined2_new _ _ _ _ _ (by simp) (by show (entryL k n f s.toList 65535).length + 1 ≤ _; have := HL.out; simp [entryL]; omega)).mono ?_; rintro e w3 ⟨rfl, hb⟩; have HJ := Lib.hid hb; clear hb))
    go_ret2
    exact ⟨ret_key (by simp) 0, ((HB.out.alloc (Nat.le_of_lt hs) _).trans (HJ.out.mono (by simp; omega)))⟩

end Go.Proofs.YtecmppmkidefmaaDoor
