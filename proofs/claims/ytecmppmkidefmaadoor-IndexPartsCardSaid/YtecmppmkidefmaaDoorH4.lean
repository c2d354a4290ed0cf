/-
  slices.Delete of one element, at texts and at pointers, and slices.Clone of a piece, in the words of rows that a slice owns.
-/
import Derived.Test.YtecmppmkidefmaaDoorH3
namespace Go.Proofs.YtecmppmkidefmaaDoor
open Go.RowKit LeafW Go.Sort

theorem row_put {α : Type} [Inhabited α] (enc : α → Value) {w : World} {g : Nat} {T : TypeId} {cur : Array Value} (h : Row5 w g T cur) (off : Nat) (d : Array α) : Row5 (putRow enc w g off d) g T (putCells enc off d cur) := by
  unfold Row5 at h ⊢
  unfold putRow mapBlock
  show (w.heap.modify g _)[g]? = _
  rw [Array.getElem?_modify, if_pos rfl, h]; rfl
theorem keep_put {α : Type} [Inhabited α] (enc : α → Value) (w : World) (g off : Nat) (d : Array α) : Keep [g] w (putRow enc w g off d) :=
  ⟨rfl, rfl, rfl, by unfold putRow mapBlock; simp, fun k _ hk => by
    unfold putRow mapBlock
    show (w.heap.modify g _)[k]? = _
    rw [Array.getElem?_modify, if_neg (fun e => hk (by simp [e]))]⟩
theorem put_take {α : Type} [Inhabited α] (enc : α → Value) (cur : Array Value) (d : Array α) (m : Nat) (hm : m ≤ d.size) (hd : d.size ≤ cur.size) : (putCells enc 0 d cur).toList.take m = (d.toList.take m).map enc := by
  apply List.ext_getElem?
  intro j
  rw [List.getElem?_take, List.getElem?_map, List.getElem?_take]
  by_cases hj : j < m
  · rw [if_pos hj, if_pos hj, Array.getElem?_toList, Array.getElem?_toList]
    unfold putCells
    rw [Array.getElem?_mapIdx, Array.getElem?_eq_getElem (by omega), Array.getElem?_eq_getElem (show j < d.size by omega)]
    simp only [Option.map_some]
    rw [if_pos ⟨Nat.zero_le _, by omega⟩, Nat.sub_zero, getElem!_pos d j (by omega)]
  · rw [if_neg hj, if_neg hj]; rfl
theorem ahead_drewN (w : World) (q : Nat) : Sort.ahead w q = w.drewN q := rfl

/-- What taking one element out of a slice leaves. -/
theorem own_del {α : Type} [Inhabited α] (enc : α → Value) {T : TypeId} {w : World} {g cap : Nat} {cur : Array Value} {d : List α} (hg : Row5 w g T cur) (hs : cur.size = cap) (hc : d.length ≤ cap) (hm : cap ≤ maxLen) (i : Nat) (hi : i < d.length) (zr : α) (q : Nat) :
    (putRow enc (Sort.ahead w q) g 0 (d.take i ++ d.drop (i + 1) ++ List.replicate (i + 1 - i) zr).toArray).ownsRow 0 T 1 (.slice (some ⟨g, 0, none⟩) (d.length - 1) cap) (d.length - 1) ((d.take i ++ d.drop (i + 1)).map enc) ∧
    Keep [g] w (putRow enc (Sort.ahead w q) g 0 (d.take i ++ d.drop (i + 1) ++ List.replicate (i + 1 - i) zr).toArray) := by
  have h1 : Row5 (Sort.ahead w q) g T cur := hg
  have hl : (d.take i ++ d.drop (i + 1)).length = d.length - 1 := by simp; omega
  refine ⟨own_mk (row_put enc h1 0 _) (by omega) hm (by unfold putCells; simp [hs]) ?_, (keep_drewN [g] w q).trans (keep_put enc _ g 0 _) (fun _ h => .inl h)⟩
  rw [put_take enc cur _ (d.length - 1) (by simp; omega) (by simp; omega)]
  rw [List.take_append_of_le_length (by omega), List.take_of_length_le (by omega)]
theorem holds_own {α : Type} [Inhabited α] (enc : α → Value) {T : TypeId} {w : World} {g cap : Nat} {cur : Array Value} {d : List α} (h : w.ownsRow 0 T 1 (.slice (some ⟨g, 0, none⟩) d.length cap) d.length (d.map enc)) (hg : Row5 w g T cur) : Holds enc w g 0 d.toArray := fun j hj => by
  have hj' : j < d.length := by simpa using hj
  refine ⟨?_, hg.free _⟩
  rw [Nat.zero_add]
  refine own_cell h j _ ?_
  rw [List.getElem?_map, List.getElem?_eq_getElem hj']
  simp only [Option.map_some]
  rw [getElem!_pos d.toArray j (by simpa using hj')]
  simp

set_option maxHeartbeats 1000000 in
theorem delS_any (w : World) (g cap : Nat) (ks : List ByteArray) (h : w.ownsRow 0 9 1 (.slice (some ⟨g, 0, none⟩) ks.length cap) ks.length (ks.map .string)) (i : Nat) (hi : i < ks.length) :
    Calls Tryd.prog 38 #[.slice (some ⟨g, 0, none⟩) ks.length cap, .int .i64 i, .int .i64 ((i : Int) + 1)] w fun e w' =>
      e = .returned (.slice (some ⟨g, 0, none⟩) (ks.length - 1) cap) ∧ w'.ownsRow 0 9 1 (.slice (some ⟨g, 0, none⟩) (ks.length - 1) cap) (ks.length - 1) ((ks.take i ++ ks.drop (i + 1)).map .string) ∧ Keep [g] w w' := by
  rcases own_cases h with ⟨e, _⟩ | ⟨g', cap', cur, e, hg, hc, hm, hs, ht⟩
  · cases e
  · cases e
    obtain ⟨i0, hi0, hz0, hzs, hzb⟩ := info_parts info9
    have hm' : cap ≤ 9223372036854775807 := by unfold maxLen at hm; omega
    have := AnyE.slices_Delete layDelS Value.string (fun _ => rfl) ⟨#[]⟩ Tryd.zeroValue9 i0 hi0 hzs g 0 cap i (i + 1) ks.toArray w (holds_own Value.string h hg) (by simpa using hc) hm' (by omega) (by simp; omega)
    rw [List.size_toArray, show i + 1 - i = 1 by omega] at this
    refine this.mono ?_
    rintro e w' ⟨rfl, q, rfl⟩
    have hb := own_del Value.string hg hs hc hm i hi ⟨#[]⟩ q
    rw [show i + 1 - i = 1 by omega] at hb
    exact ⟨rfl, hb.1, hb.2⟩

theorem info67 : (Tryd.prog.info? 67).map (fun i => (i.zero, i.size, i.bytes)) = some (some (.pointer none), 1, 8) := by kernel_rfl
set_option maxHeartbeats 1000000 in
theorem delP_any (w : World) (g cap : Nat) (ps : List (Option Addr)) (h : w.ownsRow 0 67 1 (.slice (some ⟨g, 0, none⟩) ps.length cap) ps.length (ps.map .pointer)) (i : Nat) (hi : i < ps.length) :
    Calls Tryd.prog 39 #[.slice (some ⟨g, 0, none⟩) ps.length cap, .int .i64 i, .int .i64 ((i : Int) + 1)] w fun e w' =>
      e = .returned (.slice (some ⟨g, 0, none⟩) (ps.length - 1) cap) ∧ w'.ownsRow 0 67 1 (.slice (some ⟨g, 0, none⟩) (ps.length - 1) cap) (ps.length - 1) ((ps.take i ++ ps.drop (i + 1)).map .pointer) ∧ Keep [g] w w' := by
  rcases own_cases h with ⟨e, _⟩ | ⟨g', cap', cur, e, hg, hc, hm, hs, ht⟩
  · cases e
  · cases e
    obtain ⟨i0, hi0, hz0, hzs, hzb⟩ := info_parts info67
    have hm' : cap ≤ 9223372036854775807 := by unfold maxLen at hm; omega
    have := AnyE.slices_Delete layDelP Value.pointer (fun _ => rfl) none Tryd.zeroValue67 i0 hi0 hzs g 0 cap i (i + 1) ps.toArray w (holds_own Value.pointer h hg) (by simpa using hc) hm' (by omega) (by simp; omega)
    rw [List.size_toArray, show i + 1 - i = 1 by omega] at this
    refine this.mono ?_
    rintro e w' ⟨rfl, q, rfl⟩
    have hb := own_del Value.pointer hg hs hc hm i hi none q
    rw [show i + 1 - i = 1 by omega] at hb
    exact ⟨rfl, hb.1, hb.2⟩

/-- slices.Clone of a piece of a row of texts. -/
theorem cloneS_any (w : World) (g off m c : Nat) (ks : List ByteArray) (hl : ks.length = m) (hbig : m * 16 ≤ 140737488355328) (hc : ∀ j u, ks[j]? = some u → w.cell? ⟨g, off + j, none⟩ = some (.string u)) :
    Calls Tryd.prog 41 #[.slice (some ⟨g, off, none⟩) m c] w fun e w' => ∃ b c2, e = .returned (.slice (some ⟨b, 0, none⟩) m c2) ∧ w.heap.size ≤ b ∧ w'.ownsRow 0 9 1 (.slice (some ⟨b, 0, none⟩) m c2) m (ks.map .string) ∧ Below w.heap.size w w' := by
  obtain ⟨i0, hi0, hz0, hzs, hzb⟩ := info_parts info9
  refine (AnyE.slices_Clone layCloneS i0 _ 1 16 hi0 hz0 hzs hzb rfl (by decide) Tryd.sizeOf9 g off m c (ks.map .string) w (by simp [hl]) (by unfold maxLen; omega) hbig (fun j u hj => ?_) (fun u hu => ?_)).mono ?_
  · rw [List.getElem?_map] at hj
    cases hk : ks[j]? with
    | none => rw [hk] at hj; cases hj
    | some x => rw [hk] at hj; cases hj; exact hc j x hk
  · obtain ⟨x, _, rfl⟩ := List.mem_map.1 hu; rfl
  · rintro e w' ⟨v', rfl, ho, hne, hb⟩
    rcases ho.2 with ⟨h, _⟩ | ⟨g', cap', cur, rfl, _⟩
    · exact absurd h hne
    · exact ⟨g', cap', rfl, (ho.lt g' rfl).1, own_base ho, hb⟩

end Go.Proofs.YtecmppmkidefmaaDoor
