/-
  What rows with steps share: a list of steps that came in, opened; the end of a row whose arguments reach memory that stays as it was.
-/
import Derived.Test.YtecmppmkidefmaaDoorRow
import Derived.Test.YtecmppmkidefmaaDoorP1
import Derived.Deep.Slices
import Derived.Carry
namespace Go.Proofs.YtecmppmkidefmaaDoor
open Go.ChangeShapes Go.WideShapes Go.ChangeAt Go.RowKit Go.ChangeMaps Go.Joins Go.Deep

section
variable {H : Type} {enc : TypeId × Value → H}

/-- The end of a row that leaves all memory as it was. -/
theorem post_kept {P : Program} {f : Func} {s : ChangeSpec} {apart fresh handsOn : Bool} {W W' : World} {args : Array Value} {v : Value} {ds gs : List (DataW H)} {before pa : List MemPlace}
    (hW : DataW.Whole enc P f.params.toList s.vars apart W args.toList ds gs before)
    (hres : ∀ (b : Nat) (sp : Nat → Bool) (hd : Bool), DataW.TrodAll enc P W' b sp hd f.resultTypes.toList (v.resultList f.resultTypes.size) (s.fn H (ds ++ gs)).results [])
    (hargs : DataW.TrodAll enc P W' 0 (fun b => decide (b < W.heap.size)) true f.params.toList args.toList (s.fn H (ds ++ gs)).args pa)
    (hvars : ∀ sp : Nat → Bool, DataW.TrodVars enc P W' sp s.vars (s.fn H (ds ++ gs)).vars [])
    (hk : Below W.heap.size W W') : s.post enc P f apart fresh handsOn false W args v W' :=
  ⟨ds, gs, before, [], pa, [], hW, hres _ _ _, hargs, hvars _, hk.frame _, fun c => by cases c⟩

theorem list4s {α : Type} {l : List α} (h : l.length = 4) : ∃ a b c d, l = [a, b, c, d] := by
  match l, h with
  | [a, b, c, d], _ => exact ⟨a, b, c, d, rfl⟩
theorem list10 {α : Type} {l : List α} (h : l.length = 10) : ∃ a b c d e f g i j k, l = [a, b, c, d, e, f, g, i, j, k] := by
  match l, h with
  | [a, b, c, d, e, f, g, i, j, k], _ => exact ⟨a, b, c, d, e, f, g, i, j, k, rfl⟩
theorem array3 {α : Type} {l : Array α} (h : l.size = 3) : ∃ a b c, l = #[a, b, c] := by
  obtain ⟨l⟩ := l
  match l, h with
  | [a, b, c], _ => exact ⟨a, b, c, rfl⟩

set_option maxRecDepth 100000 in
/-- The four cells of a value of the program's, read. -/
theorem read_cells {w : World} {base : Nat} {spare : Nat → Bool} {held : Bool} {fuel : Nat} {cs : List Value} {x : DataW H × List MemPlace}
    (h : DataW.trod enc Tryd.prog w base spare held fuel 33 cs = some x) :
    ∃ (k n : Int) (f : Nat) (s : ByteArray), cs = [.int .i64 k, .int .i64 n, .float .f64 f, .string s] ∧ (-9223372036854775808 ≤ n ∧ n ≤ 9223372036854775807) ∧ f < 18446744073709551616 := by
  obtain ⟨y0, y1, y2, y3, m, hx, hl, h0, h1, h2, h3⟩ := trod_struct4 Tryd.underlying33 h
  rw [cells24] at hl
  obtain ⟨c0, c1, c2, c3, rfl⟩ := list4s hl
  have q0 : Tryd.prog.cellsOf 3 = 1 := by kernel_rfl
  have q1 : Tryd.prog.cellsOf 2 = 1 := by kernel_rfl
  have q2 : Tryd.prog.cellsOf 31 = 1 := by kernel_rfl
  have q3 : Tryd.prog.cellsOf 9 = 1 := by kernel_rfl
  have h0' : DataW.trod enc Tryd.prog w base spare held m 3 [c0] = some y0 := by simpa [q0] using h0
  have h1' : DataW.trod enc Tryd.prog w base spare held m 2 [c1] = some y1 := by simpa [q1] using h1
  have h2' : DataW.trod enc Tryd.prog w base spare held m 31 [c2] = some y2 := by simpa [q2] using h2
  have h3' : DataW.trod enc Tryd.prog w base spare held m 9 [c3] = some y3 := by simpa [q3] using h3
  obtain ⟨k, e0, rfl, w0⟩ := DataW.trod_int Tryd.underlying3 h0'
  obtain ⟨n, e1, rfl, w1⟩ := DataW.trod_int Tryd.underlying2 h1'
  obtain ⟨f, e2, rfl, w2⟩ := trod_float Tryd.underlying31 h2'
  obtain ⟨s, e3, rfl, w3⟩ := DataW.trod_string Tryd.underlying9 h3'
  simp only [List.cons.injEq, and_true] at e0 e1 e2 e3
  subst e0 e1 e2 e3
  refine ⟨k, n, f, s, rfl, ?_, ?_⟩
  · simpa [Lit.wf, IntKind.min, IntKind.max, IntKind.signed, IntKind.bits] using w1
  · simpa [Lit.wf] using w2

theorem cells35 : Tryd.prog.cellsOf 35 = 10 := by kernel_rfl

set_option maxRecDepth 100000 in
theorem read_step {w : World} {base : Nat} {spare : Nat → Bool} {held : Bool} {fuel : Nat} {cs : List Value} {x : DataW H × List MemPlace}
    (h : DataW.trod enc Tryd.prog w base spare held fuel 35 cs = some x) :
    ∃ s : StepR, s.Ok ∧ cs = [.int .i64 s.k, .int .i64 s.t, .int .i64 s.vk, .int .i64 s.vn, .float .f64 s.vf, .string s.vs, .int .i64 s.wk, .int .i64 s.wn, .float .f64 s.wf, .string s.ws] := by
  obtain ⟨y0, y1, y2, y3, m, hx, hl, h0, h1, h2, h3⟩ := trod_struct4 Tryd.underlying35 h
  rw [cells35] at hl
  obtain ⟨c0, c1, c2, c3, c4, c5, c6, c7, c8, c9, rfl⟩ := list10 hl
  have q0 : Tryd.prog.cellsOf 3 = 1 := by kernel_rfl
  have h0' : DataW.trod enc Tryd.prog w base spare held m 3 [c0] = some y0 := by simpa [q0] using h0
  have h1' : DataW.trod enc Tryd.prog w base spare held m 3 [c1] = some y1 := by simpa [q0] using h1
  have h2' : DataW.trod enc Tryd.prog w base spare held m 33 [c2, c3, c4, c5] = some y2 := by simpa [cells24] using h2
  have h3' : DataW.trod enc Tryd.prog w base spare held m 33 [c6, c7, c8, c9] = some y3 := by simpa [cells24] using h3
  obtain ⟨k, e0, rfl, w0⟩ := DataW.trod_int Tryd.underlying3 h0'
  obtain ⟨t, e1, rfl, w1⟩ := DataW.trod_int Tryd.underlying3 h1'
  obtain ⟨vk, vn, vf, vs, e2, v1, v2⟩ := read_cells h2'
  obtain ⟨wk, wn, wf, ws, e3, u1, u2⟩ := read_cells h3'
  simp only [List.cons.injEq, and_true] at e0 e1 e2 e3
  obtain ⟨rfl, rfl, rfl, rfl⟩ := e2
  obtain ⟨rfl, rfl, rfl, rfl⟩ := e3
  subst e0 e1
  exact ⟨⟨k, t, vk, vn, vf, vs, wk, wn, wf, ws⟩, ⟨v1, v2, u1, u2⟩, rfl⟩

instance : Inhabited StepR := ⟨⟨0, 0, 0, 0, 0, ⟨#[]⟩, 0, 0, 0, ⟨#[]⟩⟩⟩

set_option maxRecDepth 100000 in
/-- A list of steps that came in. -/
theorem open_steps {w : World} {base b0 : Nat} {spare : Nat → Bool} {held : Bool} {r : Reach} {v : Value} {d : DataW H} {p : List MemPlace} (hv : Value.okWide Tryd.prog w r b0 22 v)
    (h : DataW.Trod enc Tryd.prog w base spare held 22 v d p) : ∃ a n c xs, v = .slice a n c ∧ xs.length = n ∧ StepsAt w a xs := by
  obtain ⟨a0, n0, c0, rfl⟩ := okWide_slice Tryd.underlying22 hv
  obtain ⟨fuel, hf⟩ := h
  rcases open_slice Tryd.underlying22 hf with ⟨hcs, _⟩ | ⟨a, len, cap, m, nf, D, Pl, hcs, _, hl, hm, hmm, _, hel⟩
  · have e : Value.slice a0 n0 c0 = .slice none 0 0 := by simpa [Value.cells] using hcs
    cases e
    exact ⟨none, 0, 0, [], rfl, rfl, fun j s hs => by simp at hs, by simp⟩
  · have e : Value.slice a0 n0 c0 = .slice (some a) len cap := by simpa [Value.cells] using hcs
    cases e
    have hlm : n0 ≤ m := by rw [hmm]; split <;> omega
    obtain ⟨f, hf⟩ := choose_lt (α := StepR) (n := n0) (p := fun i s => s.Ok ∧ ∃ g o, a = ⟨g, o, none⟩ ∧ StepAt w g (o + i * 10) s) (fun i hi => by
      obtain ⟨cs, h1, h2⟩ := hel i (by omega)
      rw [cells35] at h1
      obtain ⟨s, hok, rfl⟩ := read_step h2
      obtain ⟨_, _, hc⟩ := World.cells?_some h1
      obtain ⟨g, o, sp⟩ := a
      have hsp : sp = none := by
        obtain ⟨cs0, k1, k2⟩ := hel 0 (by omega)
        rw [cells35] at k1
        obtain ⟨s0, _, rfl⟩ := read_step k2
        obtain ⟨_, _, kc⟩ := World.cells?_some k1
        have k0 := kc 0 (by omega)
        rw [add_add] at k0
        simpa [Addr.add] using World.cell?_spot k0
      subst hsp
      have hc' : ∀ (j : Nat) (u : Value), w.cell? (((⟨g, o, none⟩ : Addr).add (i * 10)).add j) = some u → w.cell? ⟨g, o + i * 10 + j, none⟩ = some u := fun j u h => by rw [add_plain, add_plain] at h; exact h
      exact ⟨s, hok, g, o, rfl, ⟨hc' 0 _ (hc 0 (by omega)), hc' 1 _ (hc 1 (by omega)), hc' 2 _ (hc 2 (by omega)), hc' 3 _ (hc 3 (by omega)), hc' 4 _ (hc 4 (by omega)), hc' 5 _ (hc 5 (by omega)), hc' 6 _ (hc 6 (by omega)), hc' 7 _ (hc 7 (by omega)), hc' 8 _ (hc 8 (by omega)), hc' 9 _ (hc 9 (by omega))⟩⟩)
    refine ⟨some a, n0, c0, (List.range n0).map f, rfl, by simp, fun j s hs => ?_, by simp; unfold maxLen at hm; omega⟩
    rw [List.getElem?_map] at hs
    rcases Nat.lt_or_ge j n0 with hj | hj
    · rw [List.getElem?_range hj] at hs
      cases hs
      obtain ⟨hok, g, o, rfl, hs⟩ := hf j hj
      exact ⟨g, o, rfl, hs, hok⟩
    · rw [List.getElem?_eq_none (by simpa using hj)] at hs
      cases hs

theorem cells3i8 : Tryd.prog.cellsOf 24 = 3 := by kernel_rfl
theorem cells1i8 : Tryd.prog.cellsOf 23 = 1 := by kernel_rfl

set_option maxRecDepth 100000 in
/-- Three small numbers, opened. -/
theorem open_i8s {w : World} {base : Nat} {spare : Nat → Bool} {held : Bool} {r : Reach} {b0 : Nat} {v : Value} {d : DataW H} {p : List MemPlace} (hv : Value.okWide Tryd.prog w r b0 24 v)
    (h : DataW.Trod enc Tryd.prog w base spare held 24 v d p) :
    ∃ (m0 m1 m2 : Int), v = .agg #[.int .i8 m0, .int .i8 m1, .int .i8 m2] ∧ (-128 ≤ m0 ∧ m0 ≤ 127) ∧ (-128 ≤ m1 ∧ m1 ≤ 127) ∧ (-128 ≤ m2 ∧ m2 ≤ 127) := by
  simp only [Value.okWide, Tryd.underlying24] at hv
  obtain ⟨cs, rfl, hsz, _⟩ := hv
  rw [cells3i8] at hsz
  obtain ⟨c0, c1, c2, rfl⟩ := array3 hsz
  obtain ⟨fuel, hf⟩ := h
  obtain ⟨xs, q, _, hx, _, hl, hel⟩ := DataW.trod_array Tryd.underlying24 hf
  have h0 := hel 0 (by omega)
  have h1 := hel 1 (by omega)
  have h2 := hel 2 (by omega)
  rw [cells1i8] at h0 h1 h2
  match xs, hl with
  | [y0, y1, y2], _ =>
  simp only [Value.cells, List.drop, List.take, Nat.mul_one, List.getElem?_cons_zero, List.getElem?_cons_succ] at h0 h1 h2
  obtain ⟨m0, e0, rfl, w0⟩ := DataW.trod_int Tryd.underlying23 h0
  obtain ⟨m1, e1, rfl, w1⟩ := DataW.trod_int Tryd.underlying23 h1
  obtain ⟨m2, e2, rfl, w2⟩ := DataW.trod_int Tryd.underlying23 h2
  simp only [List.cons.injEq, and_true] at e0 e1 e2
  subst e0 e1 e2
  refine ⟨m0, m1, m2, rfl, ?_, ?_, ?_⟩
  · simpa [Lit.wf, IntKind.min, IntKind.max, IntKind.signed, IntKind.bits] using w0
  · simpa [Lit.wf, IntKind.min, IntKind.max, IntKind.signed, IntKind.bits] using w1
  · simpa [Lit.wf, IntKind.min, IntKind.max, IntKind.signed, IntKind.bits] using w2
end
end Go.Proofs.YtecmppmkidefmaaDoor
