/-
  What the walk over KeyBegins shares: two pairs of values and of texts that the law has laid; one cell of a row stored.
-/
import Derived.Test.YticjfnglciomhaaDoorL1
import Derived.Handy
namespace Go.Proofs.YticjfnglciomhaaDoor
open Go.RowKit

/-- One cell of a row that the call has laid, stored; the world behind it is one of which this much is known. -/
theorem wpList_cell_row {P : Program} {w : World} {ops : Array Oper} {rest : List Oper} {o : Oper} {a : Act} {Q : Exit → Act → World → Prop} (hgd : o.guard = none) (ty : TypeId) (x y : Operand) (ho : o.op = .store ty x y)
    (g j : Nat) (v : Value) (hx : a.eval x = .pointer (some ⟨g, j, none⟩)) (hy : a.eval y = v) (h1 : v.oneCell' = true) (t : TypeId) (cs cs' : Array Value) (hg : Row5 w g t cs) (hj : decide (j < cs.size) = true) (hcs : cs.setIfInBounds j v = cs')
    (hi : (P.info? ty).map (·.size) = some 1)
    (h : ∀ W2, Row5 W2 g t cs' → (∀ b, b ≠ g → W2.heap[b]? = w.heap[b]?) → (∀ B w0, Below B w0 w → B ≤ g → Below B w0 W2) → W2.heap.size = w.heap.size → wpList P ops Q rest (a.put o.dst undef) W2) : wpList P ops Q (o :: rest) a w :=
  wpList_plain hgd fun _ hK => by
    subst hcs
    unfold Oper.wp execOp
    simp only [ho, hx, hy, Instr.storeAt, Instr.sureAddr, Sem.run_bind, Sem.run_pure, Result.andThen_ok, run_storeVar_cell w g j t ty cs v hg (of_decide_eq_true hj) hi h1]
    exact hK _ _ (h _ (row5_cell hg j v) (fun b hb => by show (w.heap.modify g _)[b]? = _; rw [Array.getElem?_modify, if_neg (fun e => hb e.symm)]) (fun _ _ hb hB => below_cell hb hB j v) (by simp [World.setCell]))

/-- Two pairs of values and two pairs of texts that the law has laid, and what a call leaves of them. -/
structure Laid4 (w0 w : World) (A B X Y : Array Value) : Prop where
  a : Row5 w w0.heap.size 41 A
  b : Row5 w (w0.heap.size + 1) 41 B
  x : Row5 w (w0.heap.size + 2) 42 X
  y : Row5 w (w0.heap.size + 3) 42 Y
  size : w0.heap.size + 4 ≤ w.heap.size
  max0 : MaxAt w0
  below : Below w0.heap.size w0 w
theorem Laid4.max {w0 w : World} {A B X Y : Array Value} (h : Laid4 w0 w A B X Y) : MaxAt w := h.max0.below h.below
theorem Laid4.call {w0 w w' : World} {A B X Y : Array Value} (h : Laid4 w0 w A B X Y) (hb : Below w.heap.size w w') : Laid4 w0 w' A B X Y :=
  have hs := h.size
  have := hb.size
  ⟨h.a.below hb (by omega), h.b.below hb (by omega), h.x.below hb (by omega), h.y.below hb (by omega), by omega, h.max0, h.below.trans (hb.mono (by omega))⟩
theorem Laid4.alloc {w0 w : World} {A B X Y : Array Value} (h : Laid4 w0 w A B X Y) (o : Obj) : Laid4 w0 (w.alloc o) A B X Y := h.call ((Below.refl _ _).alloc (Nat.le_refl _) o)
theorem Laid4.drewN {w0 w : World} {A B X Y : Array Value} (h : Laid4 w0 w A B X Y) (q : Nat) : Laid4 w0 (w.drewN q) A B X Y := h.call (below_drewN (Below.refl _ _) q)
theorem Row5.other {w w' : World} {g b : Nat} {T : TypeId} {cs : Array Value} (h : Row5 w b T cs) (ho : ∀ b, b ≠ g → w'.heap[b]? = w.heap[b]?) (hn : b ≠ g) : Row5 w' b T cs := by
  unfold Row5; rw [ho b hn]; exact h
theorem Laid4.setX {w0 w w' : World} {A B X Y X' : Array Value} (h : Laid4 w0 w A B X Y) (hr : Row5 w' (w0.heap.size + 2) 42 X') (ho : ∀ b, b ≠ w0.heap.size + 2 → w'.heap[b]? = w.heap[b]?)
    (hb : ∀ B w1, Below B w1 w → B ≤ w0.heap.size + 2 → Below B w1 w') (hz : w'.heap.size = w.heap.size) : Laid4 w0 w' A B X' Y :=
  ⟨h.a.other ho (by omega), h.b.other ho (by omega), hr, h.y.other ho (by omega), by rw [hz]; exact h.size, h.max0, hb _ _ h.below (by omega)⟩
theorem Laid4.setY {w0 w w' : World} {A B X Y Y' : Array Value} (h : Laid4 w0 w A B X Y) (hr : Row5 w' (w0.heap.size + 3) 42 Y') (ho : ∀ b, b ≠ w0.heap.size + 3 → w'.heap[b]? = w.heap[b]?)
    (hb : ∀ B w1, Below B w1 w → B ≤ w0.heap.size + 3 → Below B w1 w') (hz : w'.heap.size = w.heap.size) : Laid4 w0 w' A B X Y' :=
  ⟨h.a.other ho (by omega), h.b.other ho (by omega), h.x.other ho (by omega), hr, by rw [hz]; exact h.size, h.max0, hb _ _ h.below (by omega)⟩
theorem alloc_size' (w : World) (o : Obj) : (w.alloc o).heap.size = w.heap.size + 1 := by show (w.heap.push _).size = _; rw [Array.size_push]
theorem Laid4.start (w0 : World) (A B X Y : Array Value) (hM : MaxAt w0) : Laid4 w0 ((((w0.alloc (.cells A 41)).alloc (.cells B 41)).alloc (.cells X 42)).alloc (.cells Y 42)) A B X Y := by
  have h2 := Row5.new (w0.alloc (.cells A 41)) 41 B
  have h3 := Row5.new ((w0.alloc (.cells A 41)).alloc (.cells B 41)) 42 X
  have h4 := Row5.new (((w0.alloc (.cells A 41)).alloc (.cells B 41)).alloc (.cells X 42)) 42 Y
  simp only [alloc_size'] at h2 h3 h4
  refine ⟨(((Row5.new w0 _ A).alloc _).alloc _).alloc _, (h2.alloc _).alloc _, h3.alloc _, h4, by simp only [alloc_size']; omega, hM, ?_⟩
  exact ((((Below.refl _ _).alloc (Nat.le_refl _) _).alloc (by simp) _).alloc (by simp only [alloc_size']; omega) _).alloc (by simp only [alloc_size']; omega) _

theorem of_key (k n : Int) (f : Nat) (s : ByteArray) (x : ByteArray) (hx : keyL k n f s.toList = x.toList) (h : goodV k n f s.toList = true) (hn : -9223372036854775808 ≤ n ∧ n ≤ 9223372036854775807) (hf : f < 18446744073709551616) (w : World) (hM : MaxAt w) :
    Calls Tryd.prog 11 #[V k n f s] w fun e w' => e = .returned (.tuple #[.string x, .int .i64 0]) ∧ Below w.heap.size w w' := by
  have := of_yes k n f s h hn hf w hM
  rw [hx, ← str_of_list (r := x) rfl] at this
  exact this

end Go.Proofs.YticjfnglciomhaaDoor
