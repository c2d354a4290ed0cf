/-
  Laws on a small map with int keys that the call itself makes: an insert of a new key, a look-up. No program here.
-/
import Derived.Test.YtecmppmkidefmaaDoorW
import Derived.Laws.IdiomRangeMap
import Derived.Maps.Keyed
namespace Go.Proofs.YtecmppmkidefmaaDoor
open Go.RowKit

theorem run_findKey_now {P : Program} {K : TypeId} {d : TypeDesc} (hK : P.underlying K = some d) (k : Value) (es : List MapEntry) (r : Option (Nat × Value)) (h : Instr.findNow d k es 0 = some r) (w : World) :
    (Instr.findKey K k es).run P w = .ok r w := by
  simp [Instr.findKey, run_underlying hK, h]

theorem run_checkKey_int {P : Program} {K : TypeId} {q : IntKind} (hK : P.underlying K = some (.int q)) (b : Bool) (n : Int) (w : World) : (Instr.checkKey b 10000 K (.int q n)).run P w = .ok () w :=
  MapKept.run_checkKey hK (by first | trivial | rfl | exact ⟨_, rfl⟩) b 9999

theorem set_new (w : World) (o o' : Obj) : { w.alloc o with heap := (w.alloc o).heap.setIfInBounds w.heap.size o' } = w.alloc o' := by
  have h : (w.heap.push o).setIfInBounds w.heap.size o' = w.heap.push o' := by
    apply Array.ext_getElem?
    intro i
    rw [Array.getElem?_setIfInBounds, Array.getElem?_push, Array.getElem?_push]
    by_cases e : w.heap.size = i
    · subst e; simp
    · rw [if_neg e, if_neg (fun h => e h.symm), if_neg (fun h => e h.symm)]
  show ({ w with heap := (w.heap.push o).setIfInBounds w.heap.size o' } : World) = { w with heap := w.heap.push o' }
  rw [h]

theorem run_getObj_new {P : Program} (w : World) (es : Array MapEntry) (c : Nat) : (getObj w.heap.size).run P (w.alloc (.map es c)) = .ok (.map es c) (w.alloc (.map es c)) :=
  MapKept.run_getObj_map (heap_alloc_new w _)

theorem run_setObj_new {P : Program} (w : World) (es es' : Array MapEntry) (c c' : Nat) : (setObj w.heap.size (.map es' c')).run P (w.alloc (.map es c)) = .ok () (w.alloc (.map es' c')) := by
  simp only [setObj, Sem.run, heap_alloc_new]
  rw [set_new]

/-- An insert of a key that is not there, into a map that is the last block. -/
theorem run_insert_new {P : Program} {T K E : TypeId} {q : IntKind} (hT : P.underlying T = some (.map K E)) (hK : P.underlying K = some (.int q)) (w : World) (es : Array MapEntry) (c : Nat) (k : Int) (v : Value)
    (h : Instr.findNow (.int q) (.int q k) es.toList 0 = some none) :
    (Instr.mapUpdate T (.map (some w.heap.size)) (.int q k) v).run P (w.alloc (.map es c)) = .ok () (w.alloc (.map (es.push { key := .int q k, val := v, born := c }) (c + 1))) := by
  simp [Instr.mapUpdate, run_underlying hT, run_getObj_new, run_checkKey_int hK, run_findKey_now hK (.int q k) es.toList none h, run_setObj_new]

theorem run_lookup_new {P : Program} {T K E : TypeId} {q : IntKind} (hT : P.underlying T = some (.map K E)) (hK : P.underlying K = some (.int q)) (w : World) (es : Array MapEntry) (c : Nat) (k : Int) (v : Value) (i : Nat)
    (h : Instr.findNow (.int q) (.int q k) es.toList 0 = some (some (i, v))) :
    (Instr.lookup T (.map (some w.heap.size)) (.int q k) false).run P (w.alloc (.map es c)) = .ok v (w.alloc (.map es c)) := by
  simp [Instr.lookup, run_underlying hT, run_getObj_new, run_checkKey_int hK, run_findKey_now hK (.int q k) es.toList _ h]

theorem run_lookup_none {P : Program} {T K E : TypeId} {q : IntKind} (hT : P.underlying T = some (.map K E)) (hK : P.underlying K = some (.int q)) (w : World) (es : Array MapEntry) (c : Nat) (k : Int) (z : Value)
    (hz : ∀ u, (zeroValue E).run P u = .ok z u) (h : Instr.findNow (.int q) (.int q k) es.toList 0 = some none) :
    (Instr.lookup T (.map (some w.heap.size)) (.int q k) false).run P (w.alloc (.map es c)) = .ok z (w.alloc (.map es c)) := by
  simp [Instr.lookup, run_underlying hT, run_getObj_new, run_checkKey_int hK, run_findKey_now hK (.int q k) es.toList _ h, hz]

end Go.Proofs.YtecmppmkidefmaaDoor
