/-
  The walk over a text that is read out of a key (the program's).
-/
import Derived.Test.YtecmppmkidefmaaDoorR2
import Derived.Deep.RegionWith
import Derived.StillTailTactics
namespace Go.Proofs.YtecmppmkidefmaaDoor
open Go.RowKit

namespace KeyW
theorem text_yes (l : List UInt8) (i : Nat) (d : UInt8) (rest : List UInt8) (h : l.drop i = 0 :: d :: rest) (hf : ∀ c ∈ l.take i, c ≠ 0) :
    textL l = (textL (0 :: d :: rest)).map fun x => (l.take i ++ x.1, x.2) := by
  have e : l = l.take i ++ (0 :: d :: rest) := by rw [← h, List.take_append_drop]
  conv => lhs; rw [e]
  exact text_free _ _ hf (by simp)
theorem text_one (l : List UInt8) (i : Nat) (h : l.drop i = [0]) (hf : ∀ c ∈ l.take i, c ≠ 0) : textL l = none := by
  have e : l = l.take i ++ [0] := by rw [← h, List.take_append_drop]
  rw [e, text_free _ _ hf (by simp)]; rfl
end KeyW

/-- A builder that stands in block B and holds these bytes. (Behind a name.) -/
def Bld (B : Nat) (l : List UInt8) (w : World) : Prop := Lib.IsBuilderF 112 5 B B (Lib.byteCells l) w
theorem Bld.fresh (w : World) : Bld w.heap.size [] (w.alloc (.cells #[.pointer none, .slice none 0 0] 112)) := Lib.IsBuilderF.of (Lib.fresh_isBuilder _ _ w)

theorem Bld.drew {B : Nat} {l : List UInt8} {w : World} (h : Bld B l w) : Bld B l w.drew := h.elim (fun h => Or.inl h.drew) (fun h => Or.inr h.drew)

theorem wr_str (B : Nat) (l : List UInt8) (s : ByteArray) (w : World) (h : Bld B l w) (hlen : l.length + s.size ≤ 140737488355328) (hBw : B ≤ w.heap.size) :
    Calls Tryd.prog 71 #[.pointer (some ⟨B, 0, none⟩), .string s] w fun e w' => e = .returned (.tuple #[.int .i64 s.size, .nilIface]) ∧ Bld B (l ++ s.toList) w' ∧ Below B w w' := by
  refine (Any.Builder_WriteString_k { lays155 with } bextra B B (Lib.byteCells l) s w h (by rw [Lib.byteCells_length]; exact hlen) hBw).mono fun e w' ⟨he, h1, h2, _⟩ => ⟨he, ?_, h2⟩
  rw [Lib.strCells_eq, ← Lib.byteCells_append, ← ByteArray.toList_eq] at h1
  exact Or.inr h1
theorem wr_byte (B : Nat) (l : List UInt8) (w : World) (h : Bld B l w) (hlen : l.length + 1 ≤ 140737488355328) (hBw : B ≤ w.heap.size) :
    Calls Tryd.prog 96 #[.pointer (some ⟨B, 0, none⟩), .int .u8 0] w fun e w' => e = .returned .nilIface ∧ Bld B (l ++ [0]) w' ∧ Below B w w' := by
  refine (Any.Builder_WriteByte_k lays167 bextra B B (Lib.byteCells l) 0 w h (by rw [Lib.byteCells_length]; exact hlen) hBw).mono fun e w' ⟨he, h1, h2, _⟩ => ⟨he, ?_, h2⟩
  have e1 : Lib.byteCells l ++ [Value.int .u8 0] = Lib.byteCells (l ++ [0]) := by rw [Lib.byteCells_append]; rfl
  rw [e1] at h1
  exact Or.inr h1
theorem bld_str (B : Nat) (l : List UInt8) (w : World) (h : Bld B l w) (hBw : B ≤ w.heap.size) :
    Calls Tryd.prog 72 #[.pointer (some ⟨B, 0, none⟩)] w fun e w' => e = .returned (.string ⟨l.toArray⟩) ∧ Below B w w' := by
  exact (Any.Builder_String_any_k { lays155 with } bextra B B l w h hBw).mono fun e w' ⟨he, _, h2, _⟩ => ⟨he, h2⟩

def textT (l : List UInt8) : List UInt8 := match textL l with | some x => x.1 | none => []
def textR (l : List UInt8) : List UInt8 := match textL l with | some x => x.2 | none => []

theorem ret_three {a b c d : ByteArray} (h : a = b) (k : c = d) : Ending.returned (.tuple #[.string a, .string c, .bool true]) = .returned (.tuple #[.string b, .string d, .bool true]) := by rw [h, k]

/-- What the loop knows: what is left, what has been collected. -/
def TextInv (s r : ByteArray) (acc : List UInt8) : Prop := textL s.toList = (textL r.toList).map fun x => (acc ++ x.1, x.2)

theorem drop_two (r : ByteArray) (i : Nat) (h : i + 1 < r.size) (h0 : r.toList.drop i = 0 :: r.toList.drop (i + 1)) : r.toList.drop i = 0 :: r[i + 1] :: r.toList.drop (i + 2) := by
  rw [h0]
  have : i + 1 < r.toList.length := by rw [len_list]; exact h
  rw [List.drop_eq_getElem_cons this]
  congr 2
  simp [ByteArray.toList_eq]; rfl
theorem slice_two (r : ByteArray) (i : Nat) (d : UInt8) (rest : List UInt8) (h : r.toList.drop i = 0 :: d :: rest) : (r.extract i (i + 2)).toList = [0, d] := by
  rw [ByteArray.toList_eq, Lib.extract_data, ← ByteArray.toList_eq, h, show i + 2 - i = 2 by omega]; rfl
theorem slice_take (r : ByteArray) (i : Nat) : (r.extract 0 i).toList = r.toList.take i := by
  rw [ByteArray.toList_eq, Lib.extract_data, ← ByteArray.toList_eq, List.drop_zero, Nat.sub_zero]
theorem slice_drop (r : ByteArray) (i : Nat) : (r.extract i r.size).toList = r.toList.drop i := by
  rw [ByteArray.toList_eq, Lib.extract_to_end, ← ByteArray.toList_eq]

set_option maxHeartbeats 2000000 in
set_option maxRecDepth 100000 in
theorem ktext_any (s : ByteArray) (hs : s.size ≤ 140737488351232) (w : World) :
    Calls Tryd.prog 88 #[.string s] w fun e w' => e = .returned (.tuple #[.string ⟨(textT s.toList).toArray⟩, .string ⟨(textR s.toList).toArray⟩, .bool (textL s.toList).isSome]) ∧ Below w.heap.size w w' := by
  go_enter Tryd.func88, Tryd.ntmps88
  go_wp2
  go_loopw [0] (fun u0 wr => ∃ (r : ByteArray) (acc : List UInt8), u0 = .string r ∧ Hid (TextInv s r acc) ∧ acc.length + r.size ≤ s.size ∧ Hid (Bld w.heap.size acc wr) ∧ w.heap.size < wr.heap.size ∧ Hid (Below w.heap.size w wr))
    (fun u0 _ => match u0 with | .string r => r.size | _ => 0)
  case atStart => exact ⟨s, [], rfl, Lib.hid (by unfold TextInv; cases textL s.toList <;> rfl), by simp, Lib.hid (Bld.fresh w), by simp, Lib.hid ((Below.refl _ _).alloc (Nat.le_refl _) _)⟩
  case round =>
    obtain ⟨r, acc, rfl, HI, hl, HD, hsz, HB⟩ := hrel
    rcases KeyW.indexByte_spec r.toList with ⟨hx, hy⟩ | ⟨i, hx, hlt, hd, hy⟩
    · have hn : textL s.toList = none := by rw [show textL s.toList = _ from HI.out, KeyW.text_no _ hy]; rfl
      have HN := Lib.hid hn
      clear hy hn
      go_wp2_with (go_at_call 95; refine (indexByte _ _ _).mono ?_; rintro e w' ⟨rfl, rfl⟩)
      go_ret3
      exact ⟨by unfold textT textR; rw [HN.out]; rfl, HB.out⟩
    · rw [len_list] at hlt
      by_cases hlt2 : i + 1 < r.size
      · have hne : ((i : Int) + 1 == (r.size : Int)) = false := beq_eq_false_iff_ne.2 (by omega)
        have hd2 := drop_two r i hlt2 hd
        generalize r[i + 1] = d at hd2
        have hsl := slice_two r i d _ hd2
        have hty := KeyW.text_yes _ _ _ _ hd2 hy
        by_cases h1 : d = 1
        · subst h1
          have hn : textL s.toList = some (acc ++ r.toList.take i, r.toList.drop (i + 2)) := by rw [show textL s.toList = _ from HI.out, hty]; simp [textL]
          have HN := Lib.hid hn
          clear hn hty hd2 hd hy
          go_wp2_with (first | (go_at_call 95; refine (indexByte _ _ _).mono ?_; rintro e w' ⟨rfl, rfl⟩) | (go_at_call 71; refine (wr_str w.heap.size acc _ _ HD.out (by rw [ByteArray.size_extract]; omega) (Nat.le_of_lt hsz)).mono ?_; rintro e w2 ⟨rfl, hb, hb2⟩; have HD2 := Lib.hid hb; have HB2 := Lib.hid (HB.out.trans hb2); have hsz2 : w.heap.size < w2.heap.size := by { have := hb2.size; omega }; clear hb hb2))
          have a1 : IntKind.i64.wrap ((i : Int) + 2) = (i : Int) + 2 := IntWalk.i64_in _ (by omega)
          have a2 : (0 : Int) ≤ (i : Int) + 2 := by omega
          have a3 : ((i : Int) + 2).toNat = i + 2 := by omega
          have a4 : (i : Int) + 2 ≤ (r.size : Int) := by omega
          go_region_with (first | (go_at_call 72; refine (bld_str w.heap.size _ _ HD2.out.drew (show w.heap.size ≤ w2.drew.heap.size from Nat.le_of_lt hsz2)).mono ?_; rintro e w3 ⟨rfl, hb⟩; have HB3 := Lib.hid (HB2.out.drew.trans hb); clear hb))
          all_goals go_wp2
          all_goals go_ret3
          all_goals exact ⟨by unfold textT textR; rw [HN.out]; exact ret_three (str_of_list (by rw [one_list, slice_take])) (str_of_list (slice_drop r (i + 2))), HB3.out⟩
        · by_cases h2 : d = 255
          · subst h2
            have hn : ∀ q : ByteArray, q.toList = r.toList.drop (i + 2) → TextInv s q (acc ++ r.toList.take i ++ [0]) := by
              intro q hq
              unfold TextInv
              rw [show textL s.toList = _ from HI.out, hty, hq]
              simp only [textL, if_true]
              rw [if_neg (by decide)]
              cases textL (r.toList.drop (i + 2)) <;> simp
            have HN := Lib.hid hn
            clear hn hty hd2 hd hy
            go_wp2_with (first | (go_at_call 95; refine (indexByte _ _ _).mono ?_; rintro e w' ⟨rfl, rfl⟩) | (go_at_call 71; refine (wr_str w.heap.size acc _ _ HD.out (by rw [ByteArray.size_extract]; omega) (Nat.le_of_lt hsz)).mono ?_; rintro e w2 ⟨rfl, hb, hb2⟩; have HD2 := Lib.hid hb; have HB2 := Lib.hid (HB.out.trans hb2); have hsz2 : w.heap.size < w2.heap.size := by { have := hb2.size; omega }; clear hb hb2) | (go_at_call 96; refine (wr_byte w.heap.size _ _ HD2.out (by rw [List.length_append, len_list, ByteArray.size_extract]; omega) (Nat.le_of_lt hsz2)).mono ?_; rintro e w3 ⟨rfl, hb, hb2⟩; have HD3 := Lib.hid hb; have HB3 := Lib.hid (HB2.out.trans hb2); have hsz3 : w.heap.size < w3.heap.size := by { have := hb2.size; omega }; clear hb hb2))
            refine ⟨⟨_, _, rfl, Lib.hid (HN.out _ (slice_drop r (i + 2))), ?_, by rw [slice_take] at HD3; exact HD3, hsz3, HB3⟩, ?_⟩
            · rw [List.length_append, List.length_append, List.length_take, len_list, ByteArray.size_extract]; simp; omega
            · show (r.extract (i + 2) r.size).size < r.size
              rw [ByteArray.size_extract]; omega
          · have b1 : (d == 1) = false := beq_eq_false_iff_ne.2 h1
            have b2 : (d == 255) = false := beq_eq_false_iff_ne.2 h2
            have hn : textL s.toList = none := by
              rw [show textL s.toList = _ from HI.out, hty]; simp [textL, h1, h2]
            have HN := Lib.hid hn
            clear hn hty hd2 hd hy
            go_wp2_with (first | (go_at_call 95; refine (indexByte _ _ _).mono ?_; rintro e w' ⟨rfl, rfl⟩) | (go_at_call 71; refine (wr_str w.heap.size acc _ _ HD.out (by rw [ByteArray.size_extract]; omega) (Nat.le_of_lt hsz)).mono ?_; rintro e w2 ⟨rfl, hb, hb2⟩; have HD2 := Lib.hid hb; have HB2 := Lib.hid (HB.out.trans hb2); have hsz2 : w.heap.size < w2.heap.size := by { have := hb2.size; omega }; clear hb hb2))
            go_ret3
            exact ⟨by unfold textT textR; rw [HN.out]; rfl, HB2.out⟩
      · have hn : textL s.toList = none := by
          have hd3 : r.toList.drop i = [0] := by rw [hd, List.drop_of_length_le (by rw [len_list]; omega)]
          rw [show textL s.toList = _ from HI.out, KeyW.text_one _ _ hd3 hy]; rfl
        have HN := Lib.hid hn
        have heq : ((i : Int) + 1 == (r.size : Int)) = true := beq_iff_eq.2 (by omega)
        clear hn hy hd
        go_wp2_with (go_at_call 95; refine (indexByte _ _ _).mono ?_; rintro e w' ⟨rfl, rfl⟩)
        go_ret3
        exact ⟨by unfold textT textR; rw [HN.out]; rfl, HB.out⟩

end Go.Proofs.YtecmppmkidefmaaDoor
