/-
  What a call leaves of the cells that lay before it: small facts on worlds, for the walks. No program here.
-/
import Derived.WalkKit
import Derived.Lib.Hide
import Derived.Laws.CopyOwn
import Derived.Laws.Rows
namespace Go.Proofs.YtecmppmkidefmaaDoor
open Go.RowKit

theorem cell_new {w : World} {cs : Array Value} {T : TypeId} (i : Nat) : (w.alloc (.cells cs T)).cell? ⟨w.heap.size, i, none⟩ = cs[i]? := by
  show (match (w.heap.push (.cells cs T))[w.heap.size]? with | some (.cells c _ _) => if (none : Option Nat).isSome then none else c[i]? | _ => none) = _
  rw [Array.getElem?_push_size]; rfl

/-- A struct of four cells laid new, then a call. -/
theorem box4 {w w1 : World} {a b c d : Value} {T : TypeId} (hb : Below (w.alloc (.cells #[a, b, c, d] T)).heap.size (w.alloc (.cells #[a, b, c, d] T)) w1) :
    w1.cell? ⟨w.heap.size, 0, none⟩ = some a ∧ w1.cell? ⟨w.heap.size, 1, none⟩ = some b ∧ w1.cell? ⟨w.heap.size, 2, none⟩ = some c ∧ w1.cell? ⟨w.heap.size, 3, none⟩ = some d ∧
    w.heap.size < w1.heap.size ∧ Hid (Below w.heap.size w w1) := by
  have hz : (w.alloc (.cells #[a, b, c, d] T)).heap.size = w.heap.size + 1 := by show (w.heap.push _).size = _; rw [Array.size_push]
  have hc : ∀ i, w1.cell? ⟨w.heap.size, i, none⟩ = #[a, b, c, d][i]? := fun i => by
    rw [hb.cell (p := ⟨w.heap.size, i, none⟩) (by rw [hz]; show w.heap.size < _; omega)]; exact cell_new i
  have hs := hb.size
  refine ⟨hc 0, hc 1, hc 2, hc 3, by omega, ?_⟩
  exact ((Below.refl _ _).alloc (Nat.le_refl _) _).trans (hb.mono (by omega))

/-- The same cells, behind one more call. -/
theorem keep4 {w w1 w2 : World} {B : Nat} {a b c d : Value} {n : Nat} (hn : n < w1.heap.size) (hB : Hid (Below B w w1)) (hBw : B ≤ w1.heap.size)
    (c0 : w1.cell? ⟨n, 0, none⟩ = some a) (c1 : w1.cell? ⟨n, 1, none⟩ = some b) (c2 : w1.cell? ⟨n, 2, none⟩ = some c) (c3 : w1.cell? ⟨n, 3, none⟩ = some d)
    (hb : Below w1.heap.size w1 w2) :
    w2.cell? ⟨n, 0, none⟩ = some a ∧ w2.cell? ⟨n, 1, none⟩ = some b ∧ w2.cell? ⟨n, 2, none⟩ = some c ∧ w2.cell? ⟨n, 3, none⟩ = some d ∧
    n < w2.heap.size ∧ Hid (Below B w w2) := by
  have hs := hb.size
  refine ⟨?_, ?_, ?_, ?_, by omega, hB.out.trans (hb.mono hBw)⟩
  · rw [hb.cell (p := ⟨n, 0, none⟩) hn]; exact c0
  · rw [hb.cell (p := ⟨n, 1, none⟩) hn]; exact c1
  · rw [hb.cell (p := ⟨n, 2, none⟩) hn]; exact c2
  · rw [hb.cell (p := ⟨n, 3, none⟩) hn]; exact c3

/-- A cell that lay stays, behind a new block. -/
theorem cell_alloc {w : World} {a : Addr} {v : Value} (h : w.cell? a = some v) (o : Obj) : (w.alloc o).cell? a = some v := by
  rw [((Below.refl w.heap.size w).alloc (Nat.le_refl _) o).cell (World.block_lt_of_cell? _ _ h)]; exact h

/-- A row of cells that nobody froze: a struct that the call has laid. -/
def Row5 (w : World) (g : Nat) (T : TypeId) (cs : Array Value) : Prop := w.heap[g]? = some (.cells cs T (0, 0))
theorem Row5.cell {w : World} {g : Nat} {T : TypeId} {cs : Array Value} (h : Row5 w g T cs) (j : Nat) : w.cell? ⟨g, j, none⟩ = cs[j]? := by
  unfold Row5 at h; simp [World.cell?, h]
theorem Row5.free {w : World} {g : Nat} {T : TypeId} {cs : Array Value} (h : Row5 w g T cs) (j : Nat) : w.frozen? ⟨g, j, none⟩ = false := by
  unfold Row5 at h; simp [World.frozen?, h]
theorem Row5.new (w : World) (T : TypeId) (cs : Array Value) : Row5 (w.alloc (.cells cs T)) w.heap.size T cs := heap_alloc_new w _
theorem Row5.below {w w' : World} {g B : Nat} {T : TypeId} {cs : Array Value} (h : Row5 w g T cs) (hb : Below B w w') (hg : g < B) : Row5 w' g T cs := by
  unfold Row5; rw [hb.block g hg]; exact h
theorem Row5.alloc {w : World} {g : Nat} {T : TypeId} {cs : Array Value} (h : Row5 w g T cs) (o : Obj) : Row5 (w.alloc o) g T cs := by
  have hg : g < w.heap.size := by
    unfold Row5 at h
    exact (Array.getElem?_eq_some_iff.1 h).1
  exact h.below ((Below.refl w.heap.size w).alloc (Nat.le_refl _) o) hg
theorem row5_set {w : World} {g : Nat} {T : TypeId} {old : Array Value} (h : Row5 w g T old) (cs : Array Value) : Row5 (w.setRow g cs) g T cs := setRow_heap w g old cs T _ h

/-- A whole struct stored over a row; the world behind it is one of which this much is known. -/
theorem wpList_store_any {P : Program} {w : World} {ops : Array Oper} {rest : List Oper} {o : Oper} {a : Act} {Q : Exit → Act → World → Prop} (hgd : o.guard = none) (ty : TypeId) (x y : Operand) (ho : o.op = .store ty x y)
    (g : Nat) (cells : Array Value) (hx : a.eval x = .pointer (some ⟨g, 0, none⟩)) (hy : a.eval y = .agg cells)
    (t : TypeId) (old : Array Value) (hg : Row5 w g t old) (hi : (P.info? ty).map (·.size) = some cells.size)
    (hold : old.size = cells.size) (h1 : cells.all (·.oneCell') = true)
    (h : ∀ W2, Row5 W2 g t cells → (∀ B w0, Below B w0 w → B ≤ g → Below B w0 W2) → w.heap.size ≤ W2.heap.size → wpList P ops Q rest (a.put o.dst undef) W2) : wpList P ops Q (o :: rest) a w :=
  wpList_store_row hgd ty x y ho g cells hx hy t old hg hi hold h1 (h _ (row5_set hg cells) (fun _ _ hb hB => below_setRow hb hB cells) (by simp))

end Go.Proofs.YtecmppmkidefmaaDoor
