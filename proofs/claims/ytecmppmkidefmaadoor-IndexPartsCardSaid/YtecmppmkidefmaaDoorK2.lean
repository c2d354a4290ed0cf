/-
  The walks over the reference's bytes of a number, and numbers of bytes; texts joined.
-/
import Derived.Test.YtecmppmkidefmaaDoorK1
namespace Go.Proofs.YtecmppmkidefmaaDoor
open Go.RowKit

theorem eight_eq' (u : Int) (h : 0 ≤ u) : (⟨(([u / 256 / 256 / 256 / 256 / 256 / 256 / 256 % 256, u / 256 / 256 / 256 / 256 / 256 / 256 % 256, u / 256 / 256 / 256 / 256 / 256 % 256, u / 256 / 256 / 256 / 256 % 256, u / 256 / 256 / 256 % 256, u / 256 / 256 % 256, u / 256 % 256, u % 256] : List Int).map fun n => n.toNat.toUInt8).toArray⟩ : ByteArray) = ⟨(eightL u.toNat).toArray⟩ := by
  have e : ∀ (a : Int) (b : Nat), a.toNat = b → a.toNat.toUInt8 = b.toUInt8 := fun a b h => by rw [h]
  unfold eightL
  simp only [List.map]
  rw [e _ (u.toNat / 72057594037927936 % 256) (by omega), e _ (u.toNat / 281474976710656 % 256) (by omega), e _ (u.toNat / 1099511627776 % 256) (by omega), e _ (u.toNat / 4294967296 % 256) (by omega),
    e _ (u.toNat / 16777216 % 256) (by omega), e _ (u.toNat / 65536 % 256) (by omega), e _ (u.toNat / 256 % 256) (by omega), e _ (u.toNat % 256) (by omega)]

theorem conv8' (u : Int) (w : World) : (convert 76 9 (.slice (some ⟨w.heap.size, 0, none⟩) 8 8)).run Tryd.prog (w.alloc (.cells #[.int .u8 (u / 256 / 256 / 256 / 256 / 256 / 256 / 256 % 256), .int .u8 (u / 256 / 256 / 256 / 256 / 256 / 256 % 256), .int .u8 (u / 256 / 256 / 256 / 256 / 256 % 256), .int .u8 (u / 256 / 256 / 256 / 256 % 256), .int .u8 (u / 256 / 256 / 256 % 256), .int .u8 (u / 256 / 256 % 256), .int .u8 (u / 256 % 256), .int .u8 (u % 256)] 5)) =
    .ok (.string ⟨(([u / 256 / 256 / 256 / 256 / 256 / 256 / 256 % 256, u / 256 / 256 / 256 / 256 / 256 / 256 % 256, u / 256 / 256 / 256 / 256 / 256 % 256, u / 256 / 256 / 256 / 256 % 256, u / 256 / 256 / 256 % 256, u / 256 / 256 % 256, u / 256 % 256, u % 256] : List Int).map fun n => n.toNat.toUInt8).toArray⟩) (w.alloc (.cells #[.int .u8 (u / 256 / 256 / 256 / 256 / 256 / 256 / 256 % 256), .int .u8 (u / 256 / 256 / 256 / 256 / 256 / 256 % 256), .int .u8 (u / 256 / 256 / 256 / 256 / 256 % 256), .int .u8 (u / 256 / 256 / 256 / 256 % 256), .int .u8 (u / 256 / 256 / 256 % 256), .int .u8 (u / 256 / 256 % 256), .int .u8 (u / 256 % 256), .int .u8 (u % 256)] 5)) :=
  bytes_new w Tryd.underlying76 Tryd.underlying5 Tryd.underlying9 [u / 256 / 256 / 256 / 256 / 256 / 256 / 256 % 256, u / 256 / 256 / 256 / 256 / 256 / 256 % 256, u / 256 / 256 / 256 / 256 / 256 % 256, u / 256 / 256 / 256 / 256 % 256, u / 256 / 256 / 256 % 256, u / 256 / 256 % 256, u / 256 % 256, u % 256] 5 8

/-! ### numbers of bytes -/

theorem numL_snoc (l : List UInt8) (b : UInt8) : numL (l ++ [b]) = numL l * 256 + b.toNat := by simp [numL, List.foldl_append]
theorem numL_lt (l : List UInt8) : numL l < 256 ^ l.length := by
  rw [← List.reverse_reverse l]
  generalize l.reverse = m
  induction m with
  | nil => simp [numL]
  | cons b m ih =>
    have := b.toNat_lt
    rw [List.reverse_cons, numL_snoc]
    simp only [List.length_append, List.length_reverse, List.length_cons, List.length_nil, Nat.pow_succ] at *
    simp at *
    omega
theorem take_snoc (s : ByteArray) (k : Nat) (h : k < s.size) : s.toList.take (k + 1) = s.toList.take k ++ [s[k]] := by
  rw [ByteArray.toList_eq, List.take_succ_eq_append_getElem (by simpa using h)]; rfl

theorem wide_step (s : ByteArray) (k : Nat) (hk : k < 8) (h : k < s.size) :
    bits .or .u64 (IntKind.u64.wrap ((numL (s.toList.take k) : Int) * 256)) (IntKind.u64.wrap (s[k].toNat : Int)) = (numL (s.toList.take (k + 1)) : Int) := by
  have hb := s[k].toNat_lt
  have hn : numL (s.toList.take k) < 72057594037927936 := by
    have h1 := numL_lt (s.toList.take k)
    have h2 : (s.toList.take k).length ≤ 7 := by rw [List.length_take]; omega
    have h3 : 256 ^ (s.toList.take k).length ≤ 256 ^ 7 := Nat.pow_le_pow_right (by decide) h2
    have h4 : 256 ^ 7 = 72057594037927936 := by decide
    omega
  have e2 : (2 : Int) ^ 64 = 18446744073709551616 := by decide
  rw [take_snoc s k h, numL_snoc, wraps_u64 _ (by omega) (by omega), wraps_u64 (s[k].toNat : Int) (by omega) (by omega), ← bits_or_byte _ _ hn hb]
  congr 1

set_option maxHeartbeats 1000000 in
set_option maxRecDepth 100000 in
theorem wide_yes (s : ByteArray) (h : 8 ≤ s.size) (hs : s.size ≤ 140737488355328) (w : World) :
    Calls Tryd.prog 86 #[.string s] w fun e w' => e = .returned (.tuple #[.int .u64 (numL (s.toList.take 8)), .string (s.extract 8 s.size), .bool true]) ∧ Below w.heap.size w w' := by
  go_enter Tryd.func86, Tryd.ntmps86
  go_wp2
  go_loop [2, 5, 9] (fun u _ c => ∃ k : Nat, k ≤ 8 ∧ c = .int .i64 k ∧ u = .int .u64 (numL (s.toList.take k))) (fun _ _ c => 8 - (intOf c).toNat)
  case atStart => exact ⟨0, by omega, rfl, rfl⟩
  case round =>
    obtain ⟨k, hk, rfl, rfl⟩ := hrel
    by_cases hlt : k < 8
    · have hks : k < s.size := by omega
      go_wp2
      go_round
      case rel => exact ⟨k + 1, by omega, by go_num, by rw [wide_step s k hlt hks]⟩
      case measure => simp [intOf]; omega
    · obtain rfl : k = 8 := by omega
      go_wp2
      go_quiet (fail)
      go_wp2
      go_ret3
      exact ⟨rfl, below_drewN (Below.refl _ _) _⟩

set_option maxHeartbeats 400000 in
theorem wide_no (s : ByteArray) (h : s.size < 8) (w : World) :
    Calls Tryd.prog 86 #[.string s] w fun e w' => e = .returned (.tuple #[.int .u64 0, .string ⟨#[]⟩, .bool false]) ∧ Below w.heap.size w w' := by
  go_enter Tryd.func86, Tryd.ntmps86
  go_wp2
  go_ret3
  exact ⟨rfl, Below.refl _ _⟩

theorem number_step (s : ByteArray) (k : Nat) (hk : k < 8) (h : k < s.size) :
    numL (s.toList.take k) * 256 + s[k].toNat = numL (s.toList.take (k + 1)) ∧ numL (s.toList.take k) < 72057594037927936 := by
  have hn : numL (s.toList.take k) < 72057594037927936 := by
    have h1 := numL_lt (s.toList.take k)
    have h2 : (s.toList.take k).length ≤ 7 := by rw [List.length_take]; omega
    have h3 : 256 ^ (s.toList.take k).length ≤ 256 ^ 7 := Nat.pow_le_pow_right (by decide) h2
    have h4 : 256 ^ 7 = 72057594037927936 := by decide
    omega
  exact ⟨by rw [take_snoc s k h, numL_snoc], hn⟩

theorem join_none (ls : List (List UInt8)) : Lib.join ls [] = ls.flatten := by
  simp only [Lib.join, List.intercalate]
  induction ls with
  | nil => rfl
  | cons a r ih => cases r with
    | nil => simp
    | cons b q => simp [ih]

theorem joined_core (b c : Nat) (xs : List ByteArray) (w : World) (hcells : ∀ (j : Nat) x, xs[j]? = some x → w.cell? ⟨b, j, none⟩ = some (.string x))
    (hb : b < w.heap.size) (hN : xs.length ≤ 140737488355328) (hcap : xs.length ≤ c) (hlen : (xs.map (·.toList)).flatten.length ≤ 140737488355328) :
    Calls Tryd.prog 52 #[.slice (some ⟨b, 0, none⟩) xs.length c, .string ⟨#[]⟩] w fun e w' => e = .returned (.string ⟨((xs.map (·.toList)).flatten).toArray⟩) ∧ Below w.heap.size w w' := by
  have e : (xs.map (·.data.toList)) = xs.map (·.toList) := List.map_congr_left fun x _ => (ByteArray.toList_eq x).symm
  have h := Any.strings_Join lays156 bextra b 0 c xs ⟨#[]⟩ w (fun j x hj => by rw [Nat.zero_add]; exact hcells j x hj) hb hN hcap (by rw [e]; show (Lib.join _ []).length ≤ _; rw [join_none]; exact hlen)
  rw [e] at h
  have e2 : Lib.join (xs.map (·.toList)) (⟨#[]⟩ : ByteArray).data.toList = (xs.map (·.toList)).flatten := join_none _
  rw [e2] at h
  exact h

set_option maxHeartbeats 400000 in
theorem joined2 (b : Nat) (x y : ByteArray) (w : World) (c0 : w.cell? ⟨b, 0, none⟩ = some (.string x)) (c1 : w.cell? ⟨b, 1, none⟩ = some (.string y))
    (hb : b < w.heap.size) (hl : x.size + y.size ≤ 140737488355328) :
    Calls Tryd.prog 35 #[.slice (some ⟨b, 0, none⟩) 2 2] w fun e w' => e = .returned (.string ⟨(x.toList ++ y.toList).toArray⟩) ∧ Below w.heap.size w w' := by
  have h := joined_core b 2 [x, y] w (fun j z hj => by
    match j, hj with
    | 0, hj => cases hj; exact c0
    | 1, hj => cases hj; exact c1) hb (by simp) (by simp) (by simp [len_list]; omega)
  have e : (([x, y].map (·.toList)).flatten).toArray = (x.toList ++ y.toList).toArray := by simp
  rw [e] at h
  have H := Lib.hid h
  clear h c0 c1 hl
  go_enter Tryd.func35, Tryd.ntmps35
  go_wp2_with (go_at_call 52; refine H.out.mono ?_; rintro e w1 ⟨rfl, hb1⟩; have HB := Lib.hid hb1; clear hb1)
  go_ret
  exact ⟨rfl, HB.out⟩

set_option maxHeartbeats 400000 in
theorem joined3 (b : Nat) (x y z : ByteArray) (w : World) (c0 : w.cell? ⟨b, 0, none⟩ = some (.string x)) (c1 : w.cell? ⟨b, 1, none⟩ = some (.string y)) (c2 : w.cell? ⟨b, 2, none⟩ = some (.string z))
    (hb : b < w.heap.size) (hl : x.size + y.size + z.size ≤ 140737488355328) :
    Calls Tryd.prog 35 #[.slice (some ⟨b, 0, none⟩) 3 3] w fun e w' => e = .returned (.string ⟨(x.toList ++ (y.toList ++ z.toList)).toArray⟩) ∧ Below w.heap.size w w' := by
  have h := joined_core b 3 [x, y, z] w (fun j v hj => by
    match j, hj with
    | 0, hj => cases hj; exact c0
    | 1, hj => cases hj; exact c1
    | 2, hj => cases hj; exact c2) hb (by simp) (by simp) (by simp [len_list]; omega)
  have e : (([x, y, z].map (·.toList)).flatten).toArray = (x.toList ++ (y.toList ++ z.toList)).toArray := by simp
  rw [e] at h
  have H := Lib.hid h
  clear h c0 c1 c2 hl
  go_enter Tryd.func35, Tryd.ntmps35
  go_wp2_with (go_at_call 52; refine H.out.mono ?_; rintro e w1 ⟨rfl, hb1⟩; have HB := Lib.hid hb1; clear hb1)
  go_ret
  exact ⟨rfl, HB.out⟩

end Go.Proofs.YtecmppmkidefmaaDoor
