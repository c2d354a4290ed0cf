/-
  The walks over a number's eight bytes, and texts joined.
-/
import Derived.Test.YtecmppmkidefmaaDoorV3
import Derived.Test.YtecmppmkidefmaaDoorShelf
import Derived.Handy
namespace Go.Proofs.YtecmppmkidefmaaDoor
open Go.RowKit

theorem make8 (w : World) : (Instr.makeSlice 76 (.int .i64 8) (.int .i64 8)).run Tryd.prog w = .ok (.slice (some ⟨w.heap.size, 0, none⟩) 8 8) (w.alloc (.cells #[.int .u8 0, .int .u8 0, .int .u8 0, .int .u8 0, .int .u8 0, .int .u8 0, .int .u8 0, .int .u8 0] 5)) := by kernel_rfl

/-- 'string(b)' of a row of bytes that was laid last. -/
theorem bytes_new {P : Program} (w : World) {src dst e : TypeId} (hs : P.underlying src = some (.slice e)) (he : P.underlying e = some (.int .u8)) (hd : P.underlying dst = some .string) (xs : List Int) (T : TypeId) (cap : Nat) :
    (convert src dst (.slice (some ⟨w.heap.size, 0, none⟩) xs.length cap)).run P (w.alloc (.cells (xs.map (Value.int .u8)).toArray T)) =
      .ok (.string ⟨(xs.map fun n => n.toNat.toUInt8).toArray⟩) (w.alloc (.cells (xs.map (Value.int .u8)).toArray T)) := by
  rw [run_convert_bytes_arg _ src e hs he w.heap.size 0 xs.length cap xs rfl (fun i hi => by rw [Nat.zero_add, cell_new]; simp [hi]) dst hd]
  rfl

theorem eight_eq (u : Int) (h : 0 ≤ u) : (⟨(([u / 72057594037927936 % 256, u / 281474976710656 % 256, u / 1099511627776 % 256, u / 4294967296 % 256, u / 16777216 % 256, u / 65536 % 256, u / 256 % 256, u % 256] : List Int).map fun n => n.toNat.toUInt8).toArray⟩ : ByteArray) = ⟨(eightL u.toNat).toArray⟩ := by
  have e : ∀ (a : Int) (b : Nat), a.toNat = b → a.toNat.toUInt8 = b.toUInt8 := fun a b h => by rw [h]
  unfold eightL
  simp only [List.map]
  rw [e _ (u.toNat / 72057594037927936 % 256) (by omega), e _ (u.toNat / 281474976710656 % 256) (by omega), e _ (u.toNat / 1099511627776 % 256) (by omega), e _ (u.toNat / 4294967296 % 256) (by omega),
    e _ (u.toNat / 16777216 % 256) (by omega), e _ (u.toNat / 65536 % 256) (by omega), e _ (u.toNat / 256 % 256) (by omega), e _ (u.toNat % 256) (by omega)]

theorem ret_str {a b : ByteArray} (h : a = b) : Ending.returned (.string a) = .returned (.string b) := by rw [h]

theorem conv8 (u : Int) (w : World) : (convert 76 9 (.slice (some ⟨w.heap.size, 0, none⟩) 8 8)).run Tryd.prog (w.alloc (.cells #[.int .u8 (u / 72057594037927936 % 256), .int .u8 (u / 281474976710656 % 256), .int .u8 (u / 1099511627776 % 256), .int .u8 (u / 4294967296 % 256), .int .u8 (u / 16777216 % 256), .int .u8 (u / 65536 % 256), .int .u8 (u / 256 % 256), .int .u8 (u % 256)] 5)) =
    .ok (.string ⟨(([u / 72057594037927936 % 256, u / 281474976710656 % 256, u / 1099511627776 % 256, u / 4294967296 % 256, u / 16777216 % 256, u / 65536 % 256, u / 256 % 256, u % 256] : List Int).map fun n => n.toNat.toUInt8).toArray⟩) (w.alloc (.cells #[.int .u8 (u / 72057594037927936 % 256), .int .u8 (u / 281474976710656 % 256), .int .u8 (u / 1099511627776 % 256), .int .u8 (u / 4294967296 % 256), .int .u8 (u / 16777216 % 256), .int .u8 (u / 65536 % 256), .int .u8 (u / 256 % 256), .int .u8 (u % 256)] 5)) :=
  bytes_new w Tryd.underlying76 Tryd.underlying5 Tryd.underlying9 [u / 72057594037927936 % 256, u / 281474976710656 % 256, u / 1099511627776 % 256, u / 4294967296 % 256, u / 16777216 % 256, u / 65536 % 256, u / 256 % 256, u % 256] 5 8

set_option maxHeartbeats 1000000 in
set_option maxRecDepth 100000 in
theorem eight_any (u : Int) (hu : 0 ≤ u) (w : World) :
    Calls Tryd.prog 49 #[.int .u64 u] w fun e w' => e = .returned (.string ⟨(eightL u.toNat).toArray⟩) ∧ Below w.heap.size w w' := by
  have hmk := make8
  have HE := Lib.hid (eight_eq u hu)
  have hcv := conv8 u w
  generalize (⟨(([u / 72057594037927936 % 256, u / 281474976710656 % 256, u / 1099511627776 % 256, u / 4294967296 % 256, u / 16777216 % 256, u / 65536 % 256, u / 256 % 256, u % 256] : List Int).map fun n => n.toNat.toUInt8).toArray⟩ : ByteArray) = r at *
  clear hu
  go_enter Tryd.func49, Tryd.ntmps49
  go_wp2
  go_rounds 9
  go_ret
  exact ⟨ret_str HE.out, (Below.refl _ _).alloc (Nat.le_refl _) _⟩

end Go.Proofs.YtecmppmkidefmaaDoor
