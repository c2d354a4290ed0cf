/-
  The walks over a value's key (the program's): Of.
-/
import Derived.Test.YtecmppmkidefmaaDoorK2
import Derived.Test.YtecmppmkidefmaaDoorEsc
namespace Go.Proofs.YtecmppmkidefmaaDoor
open Go.RowKit

/-- The library's variable that strings.Index reads holds some number. (Behind a name: kept from the walk.) -/
def MaxAt (w : World) : Prop := ∃ m : Int, w.cell? ⟨1, 0, none⟩ = some (.int .i64 m)
theorem MaxAt.below {w w' : World} (h : MaxAt w) (hb : Below w.heap.size w w') : MaxAt w' := by
  obtain ⟨m, hm⟩ := h
  exact ⟨m, by rw [hb.cell (p := ⟨1, 0, none⟩) (World.block_lt_of_cell? _ _ hm)]; exact hm⟩
theorem MaxAt.alloc {w : World} (h : MaxAt w) (o : Obj) : MaxAt (w.alloc o) := h.below ((Below.refl _ _).alloc (Nat.le_refl _) _)

/-- 'string([]byte{x})', 'string([]byte{x, y})'. -/
theorem conv1 (w : World) (b : Nat) (x : Int) (h : b = w.heap.size) : (convert 76 9 (.slice (some ⟨b, 0, none⟩) 1 1)).run Tryd.prog (w.alloc (.cells #[.int .u8 x] 5)) =
    .ok (.string ⟨#[x.toNat.toUInt8]⟩) (w.alloc (.cells #[.int .u8 x] 5)) := by
  subst h; exact bytes_new w Tryd.underlying76 Tryd.underlying5 Tryd.underlying9 [x] 5 1
theorem conv2 (w : World) (b : Nat) (x y : Int) (h : b = w.heap.size) : (convert 76 9 (.slice (some ⟨b, 0, none⟩) 2 2)).run Tryd.prog (w.alloc (.cells #[.int .u8 x, .int .u8 y] 5)) =
    .ok (.string ⟨#[x.toNat.toUInt8, y.toNat.toUInt8]⟩) (w.alloc (.cells #[.int .u8 x, .int .u8 y] 5)) := by
  subst h; exact bytes_new w Tryd.underlying76 Tryd.underlying5 Tryd.underlying9 [x, y] 5 2

set_option maxHeartbeats 1000000 in
set_option maxRecDepth 100000 in
theorem of_no (k n : Int) (f : Nat) (s : ByteArray) (h : goodV k n f s.toList = false) (w : World) :
    Calls Tryd.prog 34 #[V k n f s] w fun e w' => e = .returned (.tuple #[.string ⟨#[]⟩, .int .i64 11]) ∧ Below w.heap.size w w' := by
  go_enter Tryd.func34, Tryd.ntmps34
  go_wp2_with (go_at_call 48; refine (good_any _ _ _ _ _).mono ?_; rintro e w1 ⟨rfl, hb⟩; obtain ⟨c0, c1, c2, c3, hs, HB⟩ := box4 hb; clear hb)
  go_ret2
  exact ⟨rfl, HB.out⟩

theorem joined2_new (W : World) (b : Nat) (x y : ByteArray) (T : TypeId) (h : b = W.heap.size) (hl : x.size + y.size ≤ 140737488355328) :
    Calls Tryd.prog 35 #[.slice (some ⟨b, 0, none⟩) 2 2] (W.alloc (.cells #[.string x, .string y] T)) fun e w' =>
      e = .returned (.string ⟨(x.toList ++ y.toList).toArray⟩) ∧ Below (W.alloc (.cells #[.string x, .string y] T)).heap.size (W.alloc (.cells #[.string x, .string y] T)) w' := by
  subst h; exact joined2 _ x y _ (cell_new 0) (cell_new 1) (by simp) hl
theorem joined3_new (W : World) (b : Nat) (x y z : ByteArray) (T : TypeId) (h : b = W.heap.size) (hl : x.size + y.size + z.size ≤ 140737488355328) :
    Calls Tryd.prog 35 #[.slice (some ⟨b, 0, none⟩) 3 3] (W.alloc (.cells #[.string x, .string y, .string z] T)) fun e w' =>
      e = .returned (.string ⟨(x.toList ++ (y.toList ++ z.toList)).toArray⟩) ∧ Below (W.alloc (.cells #[.string x, .string y, .string z] T)).heap.size (W.alloc (.cells #[.string x, .string y, .string z] T)) w' := by
  subst h; exact joined3 _ x y z _ (cell_new 0) (cell_new 1) (cell_new 2) (by simp) hl

theorem ret_key {a b : ByteArray} (h : a = b) (k : Int) : Ending.returned (.tuple #[.string a, .int .i64 k]) = .returned (.tuple #[.string b, .int .i64 k]) := by rw [h]

theorem bool_byte (n : Int) (h : n = 0 ∨ n = 1) : UInt8.ofNat (n % 256).toNat = n.toNat.toUInt8 := by rcases h with rfl | rfl <;> rfl

set_option maxHeartbeats 1000000 in
set_option maxRecDepth 100000 in
theorem of_0 (n : Int) (f : Nat) (s : ByteArray) (h : goodV 0 n f s.toList = true) (w : World) :
    Calls Tryd.prog 34 #[V 0 n f s] w fun e w' => e = .returned (.tuple #[.string ⟨(keyL 0 n f s.toList).toArray⟩, .int .i64 0]) ∧ Below w.heap.size w w' := by
  have k1 := conv1
  go_enter Tryd.func34, Tryd.ntmps34
  go_wp2_with (go_at_call 48; refine (good_any _ _ _ _ _).mono ?_; rintro e w1 ⟨rfl, hb⟩; obtain ⟨c0, c1, c2, c3, hs, HB⟩ := box4 hb; clear hb)
  go_ret2
  exact ⟨rfl, HB.out.alloc (Nat.le_of_lt hs) _⟩

set_option maxHeartbeats 1000000 in
set_option maxRecDepth 100000 in
theorem of_1 (n : Int) (f : Nat) (s : ByteArray) (h : goodV 1 n f s.toList = true) (w : World) :
    Calls Tryd.prog 34 #[V 1 n f s] w fun e w' => e = .returned (.tuple #[.string ⟨(keyL 1 n f s.toList).toArray⟩, .int .i64 0]) ∧ Below w.heap.size w w' := by
  have k1 := conv1
  have hn : n = 0 ∨ n = 1 := by rcases KeyW.good_cases h with ⟨c, _⟩ | ⟨_, c, _⟩ | ⟨c, _⟩ | ⟨c, _⟩ | ⟨c, _⟩ <;> first | exact c | exact absurd c (by decide)
  have HN := Lib.hid (bool_byte n hn)
  clear hn
  go_enter Tryd.func34, Tryd.ntmps34
  go_wp2_with (first | (go_at_call 48; refine (good_any _ _ _ _ _).mono ?_; rintro e w1 ⟨rfl, hb⟩; obtain ⟨c0, c1, c2, c3, hs, HB⟩ := box4 hb; clear hb) | (go_at_call 35; refine (joined2_new _ _ _ _ _ (by simp) (by show 1 + 1 ≤ _; omega)).mono ?_; rintro e w3 ⟨rfl, hb⟩; have HJ := Lib.hid hb; clear hb))
  go_ret2
  exact ⟨ret_key (by rw [HN.out]; rfl) 0, (((HB.out.alloc (Nat.le_of_lt hs) _).alloc (by simp; omega) _).alloc (by simp; omega) _).trans (HJ.out.mono (by simp; omega))⟩

theorem flip_q (n : Int) (hn : -9223372036854775808 ≤ n ∧ n ≤ 9223372036854775807) : ∃ q : Int, bits .xor .u64 (IntKind.u64.wrap n) 9223372036854775808 = q ∧ 0 ≤ q ∧ q ≤ 18446744073709551615 ∧ q.toNat = (n + 9223372036854775808).toNat := by
  have hw : ∃ u : Nat, IntKind.u64.wrap n = u ∧ u < 18446744073709551616 ∧ ((0 ≤ n ∧ n = u) ∨ (n < 0 ∧ n + 18446744073709551616 = u)) := by
    rcases Int.lt_or_le n 0 with h | h
    · refine ⟨(n + 18446744073709551616).toNat, ?_, by omega, Or.inr ⟨h, by omega⟩⟩
      have : IntKind.u64.wrap n = n % 18446744073709551616 := by simp [IntKind.wrap, IntKind.bits, IntKind.signed]
      rw [this]; omega
    · refine ⟨n.toNat, ?_, by omega, Or.inl ⟨h, by omega⟩⟩
      rw [wraps_u64 n h (by rw [show (2 : Int) ^ 64 = 18446744073709551616 from by decide]; omega)]; omega
  obtain ⟨u, h1, h2, h3⟩ := hw
  refine ⟨_, rfl, ?_⟩
  rw [h1, bits_xor_sign u h2]
  split <;> omega

set_option maxHeartbeats 1000000 in
set_option maxRecDepth 100000 in
theorem of_2 (n : Int) (f : Nat) (s : ByteArray) (h : goodV 2 n f s.toList = true) (hn : -9223372036854775808 ≤ n ∧ n ≤ 9223372036854775807) (w : World) :
    Calls Tryd.prog 34 #[V 2 n f s] w fun e w' => e = .returned (.tuple #[.string ⟨(keyL 2 n f s.toList).toArray⟩, .int .i64 0]) ∧ Below w.heap.size w w' := by
  have k1 := conv1
  obtain ⟨q, hq, hq0, -, hqn⟩ := flip_q n hn
  have HQ := Lib.hid hq0
  have HN := Lib.hid hqn
  clear hn hq0 hqn
  go_enter Tryd.func34, Tryd.ntmps34
  go_wp2_with (first | (go_at_call 48; refine (good_any _ _ _ _ _).mono ?_; rintro e w1 ⟨rfl, hb⟩; obtain ⟨c0, c1, c2, c3, hs, HB⟩ := box4 hb; clear hb) | (go_at_call 49; refine (eight_any _ HQ.out _).mono ?_; rintro e w2 ⟨rfl, hb⟩; have H2 := Lib.hid hb; have hz : w1.heap.size + 1 ≤ w2.heap.size := by { have := hb.size; simp at this; omega }; clear hb) | (go_at_call 35; refine (joined2_new _ _ _ _ _ (by simp) (by show 1 + (eightL _).length ≤ _; rw [KeyW.eight_length]; omega)).mono ?_; rintro e w3 ⟨rfl, hb⟩; have HJ := Lib.hid hb; clear hb))
  go_ret2
  exact ⟨ret_key (by rw [HN.out]; rfl) 0, ((((HB.out.alloc (Nat.le_of_lt hs) _).trans (H2.out.mono (by simp; omega))).alloc (by omega) _).trans (HJ.out.mono (by simp; omega)))⟩

set_option maxHeartbeats 1000000 in
set_option maxRecDepth 100000 in
theorem of_3 (n : Int) (f : Nat) (s : ByteArray) (h : goodV 3 n f s.toList = true) (hf : f < 18446744073709551616) (w : World) :
    Calls Tryd.prog 34 #[V 3 n f s] w fun e w' => e = .returned (.tuple #[.string ⟨(keyL 3 n f s.toList).toArray⟩, .int .i64 0]) ∧ Below w.heap.size w w' := by
  have k1 := conv1
  have HF := Lib.hid hf
  have HQ := Lib.hid (Int.natCast_nonneg (bitsF f))
  clear hf
  go_enter Tryd.func34, Tryd.ntmps34
  go_wp2_with (first | (go_at_call 48; refine (good_any _ _ _ _ _).mono ?_; rintro e w1 ⟨rfl, hb⟩; obtain ⟨c0, c1, c2, c3, hs, HB⟩ := box4 hb; clear hb) | (go_at_call 50; refine (bits_any _ HF.out _).mono ?_; rintro e w' ⟨rfl, rfl⟩) | (go_at_call 49; refine (eight_any _ HQ.out _).mono ?_; rintro e w2 ⟨rfl, hb⟩; have H2 := Lib.hid hb; have hz : w1.heap.size + 1 ≤ w2.heap.size := by { have := hb.size; simp at this; omega }; clear hb) | (go_at_call 35; refine (joined2_new _ _ _ _ _ (by simp) (by show 1 + (eightL _).length ≤ _; rw [KeyW.eight_length]; omega)).mono ?_; rintro e w3 ⟨rfl, hb⟩; have HJ := Lib.hid hb; clear hb))
  go_ret2
  exact ⟨ret_key (by rfl) 0, ((((HB.out.alloc (Nat.le_of_lt hs) _).trans (H2.out.mono (by simp; omega))).alloc (by omega) _).trans (HJ.out.mono (by simp; omega)))⟩

theorem replace_nul (s : ByteArray) (hs : s.size ≤ 256) (w : World) (hM : MaxAt w) :
    Calls Tryd.prog 51 #[.string s, .string ⟨#[0]⟩, .string ⟨#[0, 255]⟩] w fun e w' => e = .returned (.string ⟨(escL s.toList).toArray⟩) ∧ Below w.heap.size w w' := by
  obtain ⟨m, hm⟩ := hM
  have hc := Lib.countB_mul_le ⟨#[0]⟩ (by decide) s.size s (Nat.le_refl _)
  have e1 : (⟨#[0]⟩ : ByteArray).size = 1 := rfl
  rw [e1] at hc
  have h := replaceAll s ⟨#[0]⟩ ⟨#[0, 255]⟩ m w (by omega) hm (by decide) (by show s.size + Lib.countB s ⟨#[0]⟩ * 2 ≤ _; omega)
  have e : Lib.replaceAll s.data.toList (⟨#[0]⟩ : ByteArray).data.toList (⟨#[0, 255]⟩ : ByteArray).data.toList = escL s.toList := by
    rw [ByteArray.toList_eq]; exact KeyW.replaceAll_esc _
  rw [e] at h
  exact h

set_option maxHeartbeats 1000000 in
set_option maxRecDepth 100000 in
theorem of_4 (n : Int) (f : Nat) (s : ByteArray) (h : goodV 4 n f s.toList = true) (w : World) (hM : MaxAt w) :
    Calls Tryd.prog 34 #[V 4 n f s] w fun e w' => e = .returned (.tuple #[.string ⟨(keyL 4 n f s.toList).toArray⟩, .int .i64 0]) ∧ Below w.heap.size w w' := by
  have k1 := conv1
  have hl : s.size ≤ 256 := by
    rw [← len_list]
    rcases KeyW.good_cases h with ⟨c, _⟩ | ⟨c, _⟩ | ⟨c, _⟩ | ⟨c, _⟩ | ⟨_, _, _, c⟩ <;> first | exact c | exact absurd c (by decide)
  have he := KeyW.esc_length s.toList
  rw [len_list] at he
  have HL := Lib.hid hl
  have HE := Lib.hid he
  clear hl he
  go_enter Tryd.func34, Tryd.ntmps34
  go_wp2_with (first | (go_at_call 48; refine (good_any _ _ _ _ _).mono ?_; rintro e w1 ⟨rfl, hb⟩; obtain ⟨c0, c1, c2, c3, hs, HB⟩ := box4 hb; clear hb) | (go_at_call 51; refine (replace_nul _ HL.out _ ((hM.below HB.out).alloc _)).mono ?_; rintro e w2 ⟨rfl, hb⟩; have H2 := Lib.hid hb; have hz : w1.heap.size + 1 ≤ w2.heap.size := by { have := hb.size; simp at this; omega }; clear hb) |
    (go_at_call 35; refine (joined3_new _ _ _ _ _ _ (by simp) (by show 1 + (escL s.toList).length + 2 ≤ _; have := HE.out; have := HL.out; omega)).mono ?_; rintro e w3 ⟨rfl, hb⟩; have HJ := Lib.hid hb; clear hb))
  go_ret2
  exact ⟨ret_key (by simp [keyL]) 0, ((((HB.out.alloc (Nat.le_of_lt hs) _).trans (H2.out.mono (by simp; omega))).alloc (by omega) _).trans (HJ.out.mono (by simp; omega)))⟩

/-- What Of answers. -/
def ofK (k n : Int) (f : Nat) (l : List UInt8) : List UInt8 := if goodV k n f l then keyL k n f l else []
def ofE (k n : Int) (f : Nat) (l : List UInt8) : Int := if goodV k n f l then 0 else 11

theorem of_any (k n : Int) (f : Nat) (s : ByteArray) (hn : -9223372036854775808 ≤ n ∧ n ≤ 9223372036854775807) (hf : f < 18446744073709551616) (w : World) (hM : MaxAt w) :
    Calls Tryd.prog 34 #[V k n f s] w fun e w' => e = .returned (.tuple #[.string ⟨(ofK k n f s.toList).toArray⟩, .int .i64 (ofE k n f s.toList)]) ∧ Below w.heap.size w w' := by
  unfold ofK ofE
  cases h : goodV k n f s.toList
  · exact of_no k n f s h w
  · simp only [if_true]
    rcases KeyW.good_cases h with ⟨rfl, _⟩ | ⟨rfl, _⟩ | ⟨rfl, _⟩ | ⟨rfl, _⟩ | ⟨rfl, _⟩
    · exact of_0 n f s h w
    · exact of_1 n f s h w
    · exact of_2 n f s h hn w
    · exact of_3 n f s h hf w
    · exact of_4 n f s h w hM

end Go.Proofs.YtecmppmkidefmaaDoor
