/-
  What the rows of the key laws share: an argument of the program's value type opened and shut, the table's cell, the row's end.
-/
import Derived.Test.YticjfnglciomhaaDoorCards
import Derived.Test.YticjfnglciomhaaDoorTie
import Derived.Test.YticjfnglciomhaaDoorL0
import Derived.ProofKit
import Derived.OpenShut
import Derived.Deep.DeepHandedRow
import Derived.Lay
import Derived.Lib.SmallJoins
import Derived.Laws.Cover2
import Derived.Shelf.Vars
namespace Go.Proofs.YticjfnglciomhaaDoor
open Go.ChangeShapes Go.WideShapes Go.ChangeAt Go.RowKit Go.ChangeMaps Go.Joins

theorem own : ownKnob Tryd.prog.godebug = none := by kernel_rfl

/-- The package-level word that Go's library reads lies in the world in which the call begins. -/
theorem maxAt {W : World} (h : W.ShapedOpen Tryd.prog) : MaxAt W :=
  cell_of_shapedOpen_int (zero := #[.int .i64 0]) (t := 3) h (of_decide_eq_true (by kernel_rfl)) (by kernel_rfl) rfl (by kernel_rfl) (by kernel_rfl) Tryd.underlying3

section
variable {H : Type} {enc : TypeId × Value → H}

/-- The end of a row whose arguments reach no memory. -/
theorem post_none {P : Program} {f : Func} {s : ChangeSpec} {apart fresh handsOn again : Bool} {W W' : World} {args : Array Value} {v : Value} {ds gs : List (DataW H)}
    (hW : DataW.Whole enc P f.params.toList s.vars apart W args.toList ds gs [])
    (hres : ∀ (b : Nat) (sp : Nat → Bool) (hd : Bool), DataW.TrodAll enc P W' b sp hd f.resultTypes.toList (v.resultList f.resultTypes.size) (s.fn H (ds ++ gs)).results [])
    (hargs : ∀ sp : Nat → Bool, DataW.TrodAll enc P W' 0 sp true f.params.toList args.toList (s.fn H (ds ++ gs)).args [])
    (hvars : ∀ sp : Nat → Bool, DataW.TrodVars enc P W' sp s.vars (s.fn H (ds ++ gs)).vars [])
    (hk : Below W.heap.size W W')
    (hok : ∀ (j : Nat) (t : TypeId) (r : Value), f.resultTypes[j]? = some t → (v.resultList f.resultTypes.size)[j]? = some r → Value.okWide P W' .any 0 t r) :
    s.post enc P f apart fresh handsOn again W args v W' := by
  refine ⟨ds, gs, [], [], [], [], hW, hres _ _ _, hargs _, hvars _, hk.frame _, fun _ => ?_⟩
  exact ⟨hok, _, _, [], ⟨[], [], trodAll_append (hargs _) (hres _ _ _), hvars _, rfl, (fun _ _ h => by cases h), fun _ => List.nodup_nil⟩, (fun _ h => by cases h)⟩

theorem trod_float {P : Program} {w : World} {base : Nat} {spare : Nat → Bool} {held : Bool} {fuel : Nat} {t : TypeId} {cs : List Value} {x : DataW H × List MemPlace} {k : FloatKind} (ht : P.underlying t = some (.float k))
    (h : DataW.trod enc P w base spare held fuel t cs = some x) : ∃ b, cs = [.float k b] ∧ x = (.lit (.float k b), []) ∧ (Lit.float k b).wf = true := by
  cases fuel with
  | zero => simp [DataW.trod] at h
  | succ n =>
    unfold DataW.trod at h
    rw [ht] at h
    split at h <;> simp_all

theorem cells24 : Tryd.prog.cellsOf 24 = 4 := by kernel_rfl

set_option maxRecDepth 100000 in
/-- A value of the program's, opened: its four fields, within their bounds; and shut, in any world. -/
theorem open_val {w : World} {base : Nat} {spare : Nat → Bool} {held : Bool} {r : Reach} {b0 : Nat} {v : Value} {d : DataW H} {p : List MemPlace} (hv : Value.okWide Tryd.prog w r b0 24 v)
    (h : DataW.Trod enc Tryd.prog w base spare held 24 v d p) :
    ∃ (k n : Int) (f : Nat) (s : ByteArray), v = V k n f s ∧ p = [] ∧ (-9223372036854775808 ≤ n ∧ n ≤ 9223372036854775807) ∧ f < 18446744073709551616 ∧ s.size ≤ maxLen ∧
      ∀ (w' : World) (base' : Nat) (spare' : Nat → Bool) (held' : Bool), DataW.Trod enc Tryd.prog w' base' spare' held' 24 (V k n f s) d [] := by
  obtain ⟨c0, c1, c2, c3, y0, y1, y2, y3, m, rfl, rfl, rfl, h0, h1, h2, h3⟩ := open_agg4 Tryd.underlying24 (by kernel_rfl) cells24 hv h
  obtain ⟨k, e0, rfl, w0⟩ := DataW.trod_int Tryd.underlying3 h0
  obtain ⟨n, e1, rfl, w1⟩ := DataW.trod_int Tryd.underlying2 h1
  obtain ⟨f, e2, rfl, w2⟩ := trod_float Tryd.underlying22 h2
  obtain ⟨s, e3, rfl, w3⟩ := DataW.trod_string Tryd.underlying9 h3
  simp only [List.cons.injEq, and_true] at e0 e1 e2 e3
  subst e0 e1 e2 e3
  refine ⟨k, n, f, s, rfl, rfl, ?_, ?_, w3, fun w' base' spare' held' => ?_⟩
  · simpa [Lit.wf, IntKind.min, IntKind.max, IntKind.signed, IntKind.bits] using w1
  · simpa [Lit.wf] using w2
  · exact shut_agg4 Tryd.underlying24 (by kernel_rfl) cells24 (field_of_Trod (shut_int Tryd.underlying3 w0) rfl) (field_of_Trod (shut_int Tryd.underlying2 w1) rfl)
      (field_of_Trod (shut_float Tryd.underlying22 w2) rfl) (field_of_Trod (shut_string Tryd.underlying9 w3) rfl)

theorem cells26 : Tryd.prog.cellsOf 26 = 2 := by kernel_rfl
theorem cells25 : Tryd.prog.cellsOf 25 = 1 := by kernel_rfl

set_option maxRecDepth 100000 in
/-- Two small numbers, opened and shut. -/
theorem open_pair {w : World} {base : Nat} {spare : Nat → Bool} {held : Bool} {r : Reach} {b0 : Nat} {v : Value} {d : DataW H} {p : List MemPlace} (hv : Value.okWide Tryd.prog w r b0 26 v)
    (h : DataW.Trod enc Tryd.prog w base spare held 26 v d p) :
    ∃ (m m' : Int), v = .agg #[.int .u16 m, .int .u16 m'] ∧ p = [] ∧ (0 ≤ m ∧ m ≤ 65535) ∧ (0 ≤ m' ∧ m' ≤ 65535) ∧
      ∀ (w' : World) (base' : Nat) (spare' : Nat → Bool) (held' : Bool), DataW.Trod enc Tryd.prog w' base' spare' held' 26 (.agg #[.int .u16 m, .int .u16 m']) d [] := by
  simp only [Value.okWide, Tryd.underlying26] at hv
  obtain ⟨cs, rfl, hsz, _⟩ := hv
  rw [cells26] at hsz
  obtain ⟨c0, c1, rfl⟩ := array2 hsz
  obtain ⟨fuel, hf⟩ := h
  obtain ⟨xs, q, _, hx, _, hl, hel⟩ := DataW.trod_array Tryd.underlying26 hf
  have h0 := hel 0 (by omega)
  have h1 := hel 1 (by omega)
  rw [cells25] at h0 h1
  match xs, hl with
  | [y0, y1], _ =>
  simp only [Value.cells, List.drop, List.take, Nat.one_mul, List.getElem?_cons_zero, List.getElem?_cons_succ] at h0 h1
  obtain ⟨m, e0, rfl, w0⟩ := DataW.trod_int Tryd.underlying25 h0
  obtain ⟨m', e1, rfl, w1⟩ := DataW.trod_int Tryd.underlying25 h1
  simp only [List.cons.injEq, and_true] at e0 e1
  subst e0 e1
  obtain ⟨rfl, rfl⟩ := Prod.mk.inj hx
  refine ⟨m, m', rfl, rfl, ?_, ?_, fun w' base' spare' held' => ?_⟩
  · simpa [Lit.wf, IntKind.min, IntKind.max, IntKind.signed, IntKind.bits] using w0
  · simpa [Lit.wf, IntKind.min, IntKind.max, IntKind.signed, IntKind.bits] using w1
  · refine ⟨2, ?_⟩
    simp [DataW.trod, Value.cells, Tryd.underlying26, cells26, cells25, Tryd.underlying25, w0, w1, List.range, List.range.loop]
end

/-- No parameter wants a stand-in; the program's own looks are off. -/
theorem looks_off : false = Tryd.pinned.checked.prog.looks [] := by kernel_rfl
end Go.Proofs.YticjfnglciomhaaDoor
