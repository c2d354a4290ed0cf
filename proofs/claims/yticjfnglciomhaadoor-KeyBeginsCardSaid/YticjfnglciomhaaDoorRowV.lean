/-
  What the rows share, further: two of the program's values in an array, opened and shut.
-/
import Derived.Test.YticjfnglciomhaaDoorRow
namespace Go.Proofs.YticjfnglciomhaaDoor
open Go.ChangeShapes Go.WideShapes Go.ChangeAt Go.RowKit Go.ChangeMaps Go.Joins

section
variable {H : Type} {enc : TypeId × Value → H}

theorem list4 {α : Type} {l : List α} (h : l.length = 4) : ∃ a b c d, l = [a, b, c, d] := by
  match l, h with
  | [a, b, c, d], _ => exact ⟨a, b, c, d, rfl⟩
theorem array8 {α : Type} {l : Array α} (h : l.size = 8) : ∃ a b c d e f g i, l = #[a, b, c, d, e, f, g, i] := by
  obtain ⟨l⟩ := l
  match l, h with
  | [a, b, c, d, e, f, g, i], _ => exact ⟨a, b, c, d, e, f, g, i, rfl⟩

set_option maxRecDepth 100000 in
/-- The four cells of a value of the program's, read; and shut, in any world. -/
theorem open_cells {w : World} {base : Nat} {spare : Nat → Bool} {held : Bool} {fuel : Nat} {cs : List Value} {x : DataW H × List MemPlace}
    (h : DataW.trod enc Tryd.prog w base spare held fuel 24 cs = some x) :
    ∃ (k n : Int) (f : Nat) (s : ByteArray), cs = [.int .i64 k, .int .i64 n, .float .f64 f, .string s] ∧ x.2 = [] ∧ (-9223372036854775808 ≤ n ∧ n ≤ 9223372036854775807) ∧ f < 18446744073709551616 ∧ s.size ≤ maxLen ∧
      ∀ (w' : World) (base' : Nat) (spare' : Nat → Bool) (held' : Bool), ∃ m, DataW.trod enc Tryd.prog w' base' spare' held' m 24 cs = some (x.1, []) := by
  obtain ⟨y0, y1, y2, y3, m, hx, hl, h0, h1, h2, h3⟩ := trod_struct4 Tryd.underlying24 h
  rw [cells24] at hl
  obtain ⟨c0, c1, c2, c3, rfl⟩ := list4 hl
  have q0 : Tryd.prog.cellsOf 3 = 1 := by kernel_rfl
  have q1 : Tryd.prog.cellsOf 2 = 1 := by kernel_rfl
  have q2 : Tryd.prog.cellsOf 22 = 1 := by kernel_rfl
  have q3 : Tryd.prog.cellsOf 9 = 1 := by kernel_rfl
  have h0' : DataW.trod enc Tryd.prog w base spare held m 3 [c0] = some y0 := by simpa [q0] using h0
  have h1' : DataW.trod enc Tryd.prog w base spare held m 2 [c1] = some y1 := by simpa [q1] using h1
  have h2' : DataW.trod enc Tryd.prog w base spare held m 22 [c2] = some y2 := by simpa [q2] using h2
  have h3' : DataW.trod enc Tryd.prog w base spare held m 9 [c3] = some y3 := by simpa [q3] using h3
  obtain ⟨k, e0, rfl, w0⟩ := DataW.trod_int Tryd.underlying3 h0'
  obtain ⟨n, e1, rfl, w1⟩ := DataW.trod_int Tryd.underlying2 h1'
  obtain ⟨f, e2, rfl, w2⟩ := trod_float Tryd.underlying22 h2'
  obtain ⟨s, e3, rfl, w3⟩ := DataW.trod_string Tryd.underlying9 h3'
  simp only [List.cons.injEq, and_true] at e0 e1 e2 e3
  subst e0 e1 e2 e3
  subst hx
  refine ⟨k, n, f, s, rfl, rfl, ?_, ?_, w3, fun w' base' spare' held' => ?_⟩
  · simpa [Lit.wf, IntKind.min, IntKind.max, IntKind.signed, IntKind.bits] using w1
  · simpa [Lit.wf] using w2
  · obtain ⟨m', hm'⟩ := shut_agg4 (enc := enc) (w := w') (base := base') (spare := spare') (held := held') Tryd.underlying24 (by kernel_rfl) cells24 (field_of_Trod (shut_int Tryd.underlying3 w0) rfl) (field_of_Trod (shut_int Tryd.underlying2 w1) rfl)
      (field_of_Trod (shut_float Tryd.underlying22 w2) rfl) (field_of_Trod (shut_string Tryd.underlying9 w3) rfl)
    exact ⟨m', hm'⟩

theorem cells41 : Tryd.prog.cellsOf 41 = 8 := by kernel_rfl

set_option maxRecDepth 100000 in
/-- Two values in an array, opened and shut. -/
theorem open_vals {w : World} {base : Nat} {spare : Nat → Bool} {held : Bool} {r : Reach} {b0 : Nat} {v : Value} {d : DataW H} {p : List MemPlace} (hv : Value.okWide Tryd.prog w r b0 41 v)
    (h : DataW.Trod enc Tryd.prog w base spare held 41 v d p) :
    ∃ (k n : Int) (f : Nat) (s : ByteArray) (k' n' : Int) (f' : Nat) (s' : ByteArray), v = .agg #[.int .i64 k, .int .i64 n, .float .f64 f, .string s, .int .i64 k', .int .i64 n', .float .f64 f', .string s'] ∧ p = [] ∧
      (-9223372036854775808 ≤ n ∧ n ≤ 9223372036854775807) ∧ f < 18446744073709551616 ∧ s.size ≤ maxLen ∧ (-9223372036854775808 ≤ n' ∧ n' ≤ 9223372036854775807) ∧ f' < 18446744073709551616 ∧ s'.size ≤ maxLen ∧
      ∀ (w' : World) (base' : Nat) (spare' : Nat → Bool) (held' : Bool), DataW.Trod enc Tryd.prog w' base' spare' held' 41 (.agg #[.int .i64 k, .int .i64 n, .float .f64 f, .string s, .int .i64 k', .int .i64 n', .float .f64 f', .string s']) d [] := by
  simp only [Value.okWide, Tryd.underlying41] at hv
  obtain ⟨cs, rfl, hsz, _⟩ := hv
  rw [cells41] at hsz
  obtain ⟨c0, c1, c2, c3, c4, c5, c6, c7, rfl⟩ := array8 hsz
  obtain ⟨fuel, hf⟩ := h
  obtain ⟨xs, q, _, hx, _, hl, hel⟩ := DataW.trod_array Tryd.underlying41 hf
  have h0 := hel 0 (by omega)
  have h1 := hel 1 (by omega)
  rw [cells24] at h0 h1
  match xs, hl with
  | [y0, y1], _ =>
  simp only [Value.cells, List.drop, List.take, Nat.one_mul, List.getElem?_cons_zero, List.getElem?_cons_succ] at h0 h1
  obtain ⟨k, n, f, s, e0, z0, hn, hf', hs, t0⟩ := open_cells h0
  obtain ⟨k', n', f', s', e1, z1, hn', hf'', hs', t1⟩ := open_cells h1
  simp only [List.cons.injEq, and_true] at e0 e1
  obtain ⟨rfl, rfl, rfl, rfl⟩ := e0
  obtain ⟨rfl, rfl, rfl, rfl⟩ := e1
  obtain ⟨rfl, rfl⟩ := Prod.mk.inj hx
  refine ⟨k, n, f, s, k', n', f', s', rfl, by simp [z0, z1], hn, hf', hs, hn', hf'', hs', fun w' base' spare' held' => ?_⟩
  obtain ⟨m0, t0⟩ := t0 w' base' spare' held'
  obtain ⟨m1, t1⟩ := t1 w' base' spare' held'
  have t0 := DataW.trod_le (Nat.le_max_left m0 m1) t0
  have t1 := DataW.trod_le (Nat.le_max_right m0 m1) t1
  refine ⟨max m0 m1 + 1, ?_⟩
  simp [DataW.trod, Value.cells, Tryd.underlying41, cells41, cells24, t0, t1, List.range, List.range.loop]
end
end Go.Proofs.YticjfnglciomhaaDoor
