/-
  What lies where: blocks that a call leaves as they were, rows that a slice owns, leaves of keys in memory. No function is walked here.
-/
import Derived.Test.YtecmppmkidefmaaDoorW
import Derived.Test.YtecmppmkidefmaaDoorLeaf
import Derived.Laws.AppendOwn
import Derived.Deep.Draws
import Derived.Test.YtecmppmkidefmaaDoorProg
namespace Go.Proofs.YtecmppmkidefmaaDoor
open Go.RowKit LeafW

/-- All that lay stays as it was, but for the blocks F. -/
structure Keep (F : List Nat) (w w' : World) : Prop where
  os : w'.os = w.os
  tape : w'.tape = w.tape
  output : w'.output = w.output
  size : w.heap.size ≤ w'.heap.size
  block : ∀ k, k < w.heap.size → k ∉ F → w'.heap[k]? = w.heap[k]?

theorem Keep.refl (F : List Nat) (w : World) : Keep F w w := ⟨rfl, rfl, rfl, Nat.le_refl _, fun _ _ _ => rfl⟩
theorem Keep.trans {F G : List Nat} {a b c : World} (h : Keep F a b) (k : Keep G b c) (hG : ∀ i ∈ G, i ∈ F ∨ a.heap.size ≤ i) : Keep F a c :=
  ⟨k.os.trans h.os, k.tape.trans h.tape, k.output.trans h.output, Nat.le_trans h.size k.size, fun i hi hf =>
    (k.block i (Nat.lt_of_lt_of_le hi h.size) (fun hg => by rcases hG i hg with c | c <;> first | exact hf c | omega)).trans (h.block i hi hf)⟩
theorem Keep.mono {F G : List Nat} {w w' : World} (h : Keep F w w') (hs : ∀ i ∈ F, i ∈ G) : Keep G w w' :=
  ⟨h.os, h.tape, h.output, h.size, fun i hi hf => h.block i hi (fun c => hf (hs i c))⟩
theorem Keep.of_below {w w' : World} (h : Below w.heap.size w w') (F : List Nat) : Keep F w w' := ⟨h.os, h.tape, h.output, h.size, fun i hi _ => h.block i hi⟩
theorem Keep.below {F : List Nat} {w w' : World} (h : Keep F w w') {B : Nat} (hB : B ≤ w.heap.size) (hF : ∀ i ∈ F, B ≤ i) : Below B w w' :=
  ⟨h.os, h.tape, h.output, h.size, fun i hi => h.block i (by omega) (fun c => by have := hF i c; omega)⟩
theorem Keep.of_grown {w w' : World} {row : Option Nat} (h : w.grownBy w' row) : Keep row.toList w w' :=
  ⟨h.os, h.tape, h.output, h.size, fun i hi hf => h.block i hi (fun e => hf (by rw [← e]; simp))⟩
theorem Row5.lt {w : World} {b : Nat} {T : TypeId} {cs : Array Value} (h : Row5 w b T cs) : b < w.heap.size := (Array.getElem?_eq_some_iff.1 h).1
theorem Keep.row {F : List Nat} {w w' : World} (h : Keep F w w') {b : Nat} {T : TypeId} {cs : Array Value} (hr : Row5 w b T cs) (hb : b ∉ F) : Row5 w' b T cs := by
  unfold Row5; rw [h.block b hr.lt hb]; exact hr
theorem Keep.own {F : List Nat} {w w' : World} (h : Keep F w w') {B : Nat} {T : TypeId} {z : Nat} {v : Value} {n : Nat} {xs : List Value} (hr : w.ownsRow B T z v n xs) (hb : ∀ b, v.ownBlock = some b → b ∉ F) : w'.ownsRow B T z v n xs := by
  refine ⟨hr.1, ?_⟩
  rcases hr.2 with hn | ⟨g, cap, cur, rfl, hB, hg, rest⟩
  · exact .inl hn
  · refine .inr ⟨g, cap, cur, rfl, hB, ?_, rest⟩
    rw [h.block g (Array.getElem?_eq_some_iff.1 hg).1 (hb g rfl)]; exact hg
/-- A row that two kinds of elements would own lies twice. -/
theorem row_type {w : World} {b b' : Nat} {T T' : TypeId} {cs cs' : Array Value} (h : Row5 w b T cs) (h' : Row5 w b' T' cs') (hT : T ≠ T') : b ≠ b' := by
  rintro rfl
  unfold Row5 at h h'
  rw [h] at h'
  simp only [Option.some.injEq, Obj.cells.injEq] at h'
  exact hT h'.2.1

/-- A slice that owns a row, at hand as cells. -/
theorem own_cases {w : World} {B : Nat} {T : TypeId} {v : Value} {n : Nat} {xs : List Value} (h : w.ownsRow B T 1 v n xs) :
    (v = .slice none 0 0 ∧ n = 0 ∧ xs = []) ∨ ∃ g cap cur, v = .slice (some ⟨g, 0, none⟩) n cap ∧ Row5 w g T cur ∧ n ≤ cap ∧ cap ≤ maxLen ∧ cur.size = cap ∧ cur.toList.take n = xs := by
  have h1 := h.1
  rcases h.2 with ⟨hv, hn⟩ | ⟨g, cap, cur, hv, _, hg, hc, hm, hs, ht⟩
  · refine .inl ⟨hv, hn, ?_⟩
    subst hn; exact List.length_eq_zero_iff.1 (by simpa using h1)
  · exact .inr ⟨g, cap, cur, hv, hg, hc, hm, by simpa using hs, by simpa using ht⟩
theorem own_length {w : World} {B : Nat} {T : TypeId} {v : Value} {n : Nat} {xs : List Value} (h : w.ownsRow B T 1 v n xs) : xs.length = n := by simpa using h.1
theorem own_cell {w : World} {B : Nat} {T : TypeId} {g n cap : Nat} {xs : List Value} (h : w.ownsRow B T 1 (.slice (some ⟨g, 0, none⟩) n cap) n xs) (j : Nat) (v : Value) (hv : xs[j]? = some v) : w.cell? ⟨g, j, none⟩ = some v := by
  have := h.cells (g := g) rfl j v hv
  have hadd : (⟨g, 0, none⟩ : Addr).add j = ⟨g, j, none⟩ := by unfold Addr.add; split <;> simp_all
  rwa [hadd] at this
theorem own_mk {w : World} {T : TypeId} {g n cap : Nat} {cur : Array Value} {xs : List Value} (hg : Row5 w g T cur) (hn : n ≤ cap) (hc : cap ≤ maxLen) (hs : cur.size = cap) (ht : cur.toList.take n = xs) :
    w.ownsRow 0 T 1 (.slice (some ⟨g, 0, none⟩) n cap) n xs := by
  refine ⟨?_, .inr ⟨g, cap, cur, rfl, Nat.zero_le _, hg, hn, hc, by simpa using hs, by simpa using ht⟩⟩
  rw [← ht, List.length_take]; simp; omega
theorem own_base {w : World} {B : Nat} {T : TypeId} {z : Nat} {v : Value} {n : Nat} {xs : List Value} (h : w.ownsRow B T z v n xs) : w.ownsRow 0 T z v n xs := by
  refine ⟨h.1, ?_⟩
  rcases h.2 with hn | ⟨g, cap, cur, hv, _, rest⟩
  · exact .inl hn
  · exact .inr ⟨g, cap, cur, hv, Nat.zero_le _, rest⟩
theorem own_lt {w : World} {B : Nat} {T : TypeId} {z : Nat} {v : Value} {n : Nat} {xs : List Value} (h : w.ownsRow B T z v n xs) {b : Nat} (hb : v.ownBlock = some b) : b < w.heap.size := (h.lt b hb).2

/-- Cells of a row, one behind the other, stored. -/
def putList (cs : Array Value) : Nat → List Value → Array Value
  | _, [] => cs
  | o, v :: r => putList (cs.setIfInBounds o v) (o + 1) r
theorem putList_size : ∀ (vs : List Value) (cs : Array Value) (o : Nat), (putList cs o vs).size = cs.size
  | [], _, _ => rfl
  | v :: r, cs, o => by rw [putList, putList_size r]; simp
theorem putList_get : ∀ (vs : List Value) (cs : Array Value) (o : Nat), o + vs.length ≤ cs.size → ∀ j, (putList cs o vs)[j]? = if o ≤ j ∧ j < o + vs.length then vs[j - o]? else cs[j]?
  | [], cs, o, _, j => by rw [putList, if_neg (by rw [List.length_nil]; omega)]
  | v :: r, cs, o, h, j => by
    simp only [List.length_cons] at h
    rw [putList, putList_get r _ _ (by rw [Array.size_setIfInBounds]; omega) j]
    by_cases hj : j = o
    · subst hj
      rw [if_neg (by omega), if_pos (by simp), Array.getElem?_setIfInBounds, if_pos rfl, if_pos (by omega)]; simp
    · by_cases h1 : o + 1 ≤ j ∧ j < o + 1 + r.length
      · rw [if_pos h1, if_pos (by simp; omega), show j - o = (j - (o + 1)) + 1 by omega, List.getElem?_cons_succ]
      · rw [if_neg h1, if_neg (by simp; omega), Array.getElem?_setIfInBounds, if_neg (fun e => hj e.symm)]
theorem setCells_row {g : Nat} {T : TypeId} : ∀ (vs : List Value) (o : Nat) (w : World) (cs : Array Value), Row5 w g T cs → Row5 (w.setCells g o vs) g T (putList cs o vs)
  | [], _, _, _, h => h
  | v :: r, o, w, cs, h => by
    refine setCells_row r (o + 1) _ _ ?_
    unfold Row5 at h ⊢
    show (w.heap.modify g _)[g]? = _
    rw [Array.getElem?_modify, if_pos rfl, h]; rfl
theorem setCells_keep {g : Nat} : ∀ (vs : List Value) (o : Nat) (w : World), Keep [g] w (w.setCells g o vs)
  | [], _, w => Keep.refl _ w
  | v :: r, o, w => by
    have h1 : Keep [g] w (w.setCell ⟨g, o, none⟩ v) := ⟨rfl, rfl, rfl, by simp [World.setCell], fun k _ hk => by
      show (w.heap.modify g _)[k]? = _
      rw [Array.getElem?_modify, if_neg (fun e => hk (by simp [e]))]⟩
    exact h1.trans (setCells_keep r (o + 1) _) (fun i hi => .inl hi)
theorem keep_alloc (F : List Nat) (w : World) (o : Obj) : Keep F w (w.alloc o) := Keep.of_below ((Below.refl _ _).alloc (Nat.le_refl _) _) F
theorem keep_drew (F : List Nat) (w : World) : Keep F w w.drew := ⟨rfl, rfl, rfl, Nat.le_refl _, fun _ _ _ => rfl⟩
theorem keep_drewN (F : List Nat) (w : World) (q : Nat) : Keep F w (w.drewN q) := ⟨rfl, rfl, rfl, Nat.le_refl _, fun _ _ _ => rfl⟩
theorem size_setCells {g : Nat} : ∀ (vs : List Value) (o : Nat) (w : World), (w.setCells g o vs).heap.size = w.heap.size
  | [], _, _ => rfl
  | v :: r, o, w => by rw [World.setCells, size_setCells r]; simp [World.setCell]

/-- A leaf in memory: its struct lies in block q, its keys are those of the slice v. -/
structure LeafAt (w : World) (q : Nat) (v : Value) (first : Bool) (y : Leaf) : Prop where
  row : ∃ bd, Row5 w q 70 #[.int .i64 y.n, .string bd, v] ∧ (first = false → bd = y.b)
  own : w.ownsRow 0 9 1 v y.ks.length (y.ks.map .string)
/-- The blocks of leaves. -/
def footL (ls : List (Nat × Value)) : List Nat := ls.flatMap fun q => q.1 :: q.2.ownBlock.toList
def foot (p : Nat) (sv : Value) (ls : List (Nat × Value)) : List Nat := p :: (sv.ownBlock.toList ++ footL ls)
/-- Leaves in memory. -/
structure LvsAt (w : World) (p : Nat) (sv : Value) (ls : List (Nat × Value)) (s : St) : Prop where
  row : Row5 w p 73 #[.int .i64 s.fan, sv, .int .i64 s.next]
  own : w.ownsRow 0 67 1 sv ls.length (ls.map fun q => .pointer (some ⟨q.1, 0, none⟩))
  len : ls.length = s.l.length
  each : ∀ (i : Nat) (q : Nat × Value) (y : Leaf), ls[i]? = some q → s.l[i]? = some y → LeafAt w q.1 q.2 (i == 0) y
  nd : (foot p sv ls).Nodup

theorem mem_footL {ls : List (Nat × Value)} {b : Nat} : b ∈ footL ls ↔ ∃ q ∈ ls, b = q.1 ∨ q.2.ownBlock = some b := by
  unfold footL
  simp only [List.mem_flatMap, List.mem_cons, Option.mem_toList]
theorem footL_app (a b : List (Nat × Value)) : footL (a ++ b) = footL a ++ footL b := by simp [footL]
theorem footL_cons (q : Nat × Value) (b : List (Nat × Value)) : footL (q :: b) = q.1 :: (q.2.ownBlock.toList ++ footL b) := by simp [footL]

theorem LeafAt.keep {F : List Nat} {w w' : World} (h : Keep F w w') {q : Nat} {v : Value} {f : Bool} {y : Leaf} (hl : LeafAt w q v f y) (hq : q ∉ F) (hv : ∀ b, v.ownBlock = some b → b ∉ F) : LeafAt w' q v f y :=
  ⟨let ⟨bd, hr, hf⟩ := hl.row; ⟨bd, h.row hr hq, hf⟩, h.own hl.own hv⟩
/-- Leaves that a call does not touch stay. -/
theorem LvsAt.keep {F : List Nat} {w w' : World} (h : Keep F w w') {p : Nat} {sv : Value} {ls : List (Nat × Value)} {s : St} (hl : LvsAt w p sv ls s) (hF : ∀ b ∈ foot p sv ls, b ∉ F) : LvsAt w' p sv ls s := by
  refine ⟨h.row hl.row (hF p (by simp [foot])), h.own hl.own (fun b hb => hF b (by simp [foot, hb])), hl.len, fun i q y hq hy => ?_, hl.nd⟩
  have hm := List.mem_of_getElem? hq
  exact (hl.each i q y hq hy).keep h (hF _ (by simp only [foot, List.mem_cons, List.mem_append]; exact .inr (.inr (mem_footL.2 ⟨q, hm, .inl rfl⟩))))
    (fun b hb => hF _ (by simp only [foot, List.mem_cons, List.mem_append]; exact .inr (.inr (mem_footL.2 ⟨q, hm, .inr hb⟩))))
theorem LvsAt.lt {w : World} {p : Nat} {sv : Value} {ls : List (Nat × Value)} {s : St} (hl : LvsAt w p sv ls s) : ∀ b ∈ foot p sv ls, b < w.heap.size := by
  intro b hb
  simp only [foot, List.mem_cons, List.mem_append, Option.mem_toList] at hb
  rcases hb with rfl | hb | hb
  · exact hl.row.lt
  · exact own_lt hl.own hb
  · obtain ⟨q, hq, h⟩ := mem_footL.1 hb
    obtain ⟨i, hi⟩ := List.mem_iff_getElem?.1 hq
    have hlt : i < s.l.length := by rw [← hl.len]; exact (List.getElem?_eq_some_iff.1 hi).1
    have he := hl.each i q _ hi (List.getElem?_eq_getElem hlt)
    rcases h with rfl | h
    · obtain ⟨bd, hr, _⟩ := he.row; exact hr.lt
    · exact own_lt he.own h
theorem LvsAt.fresh {w w' : World} {p : Nat} {sv : Value} {ls : List (Nat × Value)} {s : St} (hl : LvsAt w p sv ls s) (hb : Below w.heap.size w w') : LvsAt w' p sv ls s :=
  hl.keep (Keep.of_below hb []) (fun _ _ h => by cases h)

end Go.Proofs.YtecmppmkidefmaaDoor
