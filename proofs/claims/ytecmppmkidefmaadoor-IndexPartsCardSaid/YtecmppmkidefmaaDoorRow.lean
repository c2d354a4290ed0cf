/-
  What the rows of the key laws share: an argument of the program's value type opened and shut, the table's cell, the row's end.
-/
import Derived.Test.YtecmppmkidefmaaDoorCards
import Derived.Test.YtecmppmkidefmaaDoorTie
import Derived.Test.YtecmppmkidefmaaDoorL0
import Derived.ProofKit
import Derived.OpenShut
import Derived.Deep.DeepHandedRow
import Derived.Lay
import Derived.Lib.SmallJoins
import Derived.Laws.Cover2
import Derived.Shelf.Vars
namespace Go.Proofs.YtecmppmkidefmaaDoor
open Go.ChangeShapes Go.WideShapes Go.ChangeAt Go.RowKit Go.ChangeMaps Go.Joins

theorem own : ownKnob Tryd.prog.godebug = none := by kernel_rfl

/-- The package-level word that Go's library reads lies in the world in which the call begins. -/
theorem maxAt {W : World} (h : W.ShapedOpen Tryd.prog) : MaxAt W :=
  cell_of_shapedOpen_int (zero := #[.int .i64 0]) (t := 3) h (of_decide_eq_true (by kernel_rfl)) (by kernel_rfl) rfl (by kernel_rfl) (by kernel_rfl) Tryd.underlying3

section
variable {H : Type} {enc : TypeId × Value → H}

/-- The end of a row whose arguments reach no memory. -/
theorem post_none {P : Program} {f : Func} {s : ChangeSpec} {apart fresh handsOn again : Bool} {W W' : World} {args : Array Value} {v : Value} {ds gs : List (DataW H)}
    (hW : DataW.Whole enc P f.params.toList s.vars apart W args.toList ds gs [])
    (hres : ∀ (b : Nat) (sp : Nat → Bool) (hd : Bool), DataW.TrodAll enc P W' b sp hd f.resultTypes.toList (v.resultList f.resultTypes.size) (s.fn H (ds ++ gs)).results [])
    (hargs : ∀ sp : Nat → Bool, DataW.TrodAll enc P W' 0 sp true f.params.toList args.toList (s.fn H (ds ++ gs)).args [])
    (hvars : ∀ sp : Nat → Bool, DataW.TrodVars enc P W' sp s.vars (s.fn H (ds ++ gs)).vars [])
    (hk : Below W.heap.size W W')
    (hok : ∀ (j : Nat) (t : TypeId) (r : Value), f.resultTypes[j]? = some t → (v.resultList f.resultTypes.size)[j]? = some r → Value.okWide P W' .any 0 t r) :
    s.post enc P f apart fresh handsOn again W args v W' := by
  refine ⟨ds, gs, [], [], [], [], hW, hres _ _ _, hargs _, hvars _, hk.frame _, fun _ => ?_⟩
  exact ⟨hok, _, _, [], ⟨[], [], trodAll_append (hargs _) (hres _ _ _), hvars _, rfl, (fun _ _ h => by cases h), fun _ => List.nodup_nil⟩, (fun _ h => by cases h)⟩

theorem trod_float {P : Program} {w : World} {base : Nat} {spare : Nat → Bool} {held : Bool} {fuel : Nat} {t : TypeId} {cs : List Value} {x : DataW H × List MemPlace} {k : FloatKind} (ht : P.underlying t = some (.float k))
    (h : DataW.trod enc P w base spare held fuel t cs = some x) : ∃ b, cs = [.float k b] ∧ x = (.lit (.float k b), []) ∧ (Lit.float k b).wf = true := by
  cases fuel with
  | zero => simp [DataW.trod] at h
  | succ n =>
    unfold DataW.trod at h
    rw [ht] at h
    split at h <;> simp_all

theorem cells24 : Tryd.prog.cellsOf 33 = 4 := by kernel_rfl

set_option maxRecDepth 100000 in
/-- A value of the program's, opened: its four fields, within their bounds; and shut, in any world. -/
theorem open_val {w : World} {base : Nat} {spare : Nat → Bool} {held : Bool} {r : Reach} {b0 : Nat} {v : Value} {d : DataW H} {p : List MemPlace} (hv : Value.okWide Tryd.prog w r b0 33 v)
    (h : DataW.Trod enc Tryd.prog w base spare held 33 v d p) :
    ∃ (k n : Int) (f : Nat) (s : ByteArray), v = V k n f s ∧ p = [] ∧ (-9223372036854775808 ≤ n ∧ n ≤ 9223372036854775807) ∧ f < 18446744073709551616 ∧ s.size ≤ maxLen ∧
      ∀ (w' : World) (base' : Nat) (spare' : Nat → Bool) (held' : Bool), DataW.Trod enc Tryd.prog w' base' spare' held' 33 (V k n f s) d [] := by
  obtain ⟨c0, c1, c2, c3, y0, y1, y2, y3, m, rfl, rfl, rfl, h0, h1, h2, h3⟩ := open_agg4 Tryd.underlying33 (by kernel_rfl) cells24 hv h
  obtain ⟨k, e0, rfl, w0⟩ := DataW.trod_int Tryd.underlying3 h0
  obtain ⟨n, e1, rfl, w1⟩ := DataW.trod_int Tryd.underlying2 h1
  obtain ⟨f, e2, rfl, w2⟩ := trod_float Tryd.underlying31 h2
  obtain ⟨s, e3, rfl, w3⟩ := DataW.trod_string Tryd.underlying9 h3
  simp only [List.cons.injEq, and_true] at e0 e1 e2 e3
  subst e0 e1 e2 e3
  refine ⟨k, n, f, s, rfl, rfl, ?_, ?_, w3, fun w' base' spare' held' => ?_⟩
  · simpa [Lit.wf, IntKind.min, IntKind.max, IntKind.signed, IntKind.bits] using w1
  · simpa [Lit.wf] using w2
  · exact shut_agg4 Tryd.underlying33 (by kernel_rfl) cells24 (field_of_Trod (shut_int Tryd.underlying3 w0) rfl) (field_of_Trod (shut_int Tryd.underlying2 w1) rfl)
      (field_of_Trod (shut_float Tryd.underlying31 w2) rfl) (field_of_Trod (shut_string Tryd.underlying9 w3) rfl)

end

/-- No parameter wants a stand-in; the program's own looks are off. -/
theorem looks_off : false = Tryd.pinned.checked.prog.looks [] := by kernel_rfl
end Go.Proofs.YtecmppmkidefmaaDoor
