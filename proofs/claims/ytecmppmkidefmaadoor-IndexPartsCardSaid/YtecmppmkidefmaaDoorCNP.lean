/-
  For every list of steps and every three small numbers IndexParts answers yes: what lies between two values is what lies below a third one between them, and what lies from it on; a value alone is what lies from it on, below the next one. Its conditions: those that the given statement itself names.
-/
import Derived.Test.YtecmppmkidefmaaDoorRowS
import Derived.Test.YtecmppmkidefmaaDoorP3
namespace Go.Proofs.YtecmppmkidefmaaDoor.indexParts
open Go.ChangeShapes Go.WideShapes Go.ChangeAt Go.RowKit Go.ChangeMaps

set_option maxRecDepth 100000 in
theorem contract (H : Type) (enc : TypeId × Value → H) (W : World) (base : Nat) (args : Array Value) (ds gs : List (DataW H)) (before : List MemPlace)
    (hval : ∀ (j : Nat) t v, Tryd.f3.params[j]? = some t → args[j]? = some v → Value.okWide Tryd.prog W .any base t v)
    (hW : DataW.Whole enc Tryd.prog Tryd.f3.params.toList Rows.indexPartsSpec.vars false W args.toList ds gs before) (hS : W.ShapedOpen Tryd.prog) :
    Calls Tryd.prog 3 args W fun e W' => ∃ v, e = .returned v ∧ Rows.indexPartsSpec.post enc Tryd.prog Tryd.f3 false true false false W args v W' := by
  have hW' := hW
  obtain ⟨p, q, hA0, hV, rfl, hfz, hnd⟩ := hW
  have hA : DataW.TrodAll enc Tryd.prog W 0 (fun _ => true) true Tryd.f3.params.toList args.toList ds p := hA0
  rw [Tryd.params3] at hA hval
  obtain ⟨v0, vs0, d0, ds0, p0, q0, hargs, rfl, rfl, h0, r0⟩ := trodAll_cons hA
  obtain ⟨v1, vs1, d1, ds1, p1, q1, rfl, rfl, rfl, h1, r1⟩ := trodAll_cons r0
  obtain ⟨rfl, rfl, rfl⟩ := trodAll_nil r1
  obtain rfl : args = #[v0, v1] := Array.ext' hargs
  obtain ⟨rfl, rfl⟩ := trodVars_none hV
  obtain ⟨a, n, c, xs, rfl, hn, hs⟩ := open_steps (hval 0 22 v0 rfl rfl) h0
  obtain ⟨m0, m1, m2, rfl, hm0, hm1, hm2⟩ := open_i8s (hval 1 24 v1 rfl rfl) h1
  clear hA0
  refine (indexParts_any W a c n xs hs hn m0 m1 m2 hm0 hm1 hm2 (maxAt hS)).mono fun e W' ⟨he, hg⟩ => ?_
  subst he
  have hl : laidOutB Tryd.prog = true := by kernel_rfl
  have hlt0 : ∀ x ∈ p0, x.block < W.heap.size := fun x hx => hW'.lt x (by simp [hx])
  have hlt1 : ∀ x ∈ p1, x.block < W.heap.size := fun x hx => hW'.lt x (by simp [hx])
  exact ⟨_, rfl, post_kept hW' (fun _ _ _ => (trodAll_cons_mk (shut_bool Tryd.underlying4 _) trodAll_mk0))
    (trodAll_cons_mk (Below.trod hl (by kernel_rfl) (of_decide_eq_true (by kernel_rfl)) h0 hg hlt0) (trodAll_cons_mk (Below.trod hl (by kernel_rfl) (of_decide_eq_true (by kernel_rfl)) h1 hg hlt1) trodAll_mk0)) (fun _ => rfl) hg⟩

/-- A start that fits. -/
def args0 : Array Value := #[.slice none 0 0, .agg #[.int .i8 0, .int .i8 0, .int .i8 0]]
theorem reads (os : Os) {H : Type} (enc : TypeId × Value → H) : ∃ ds places, DataW.whole enc Tryd.prog ((World.laidAll Tryd.prog os Rows.indexPartsRow.laid).forCall (fun _ _ => 0) ⟨#[], args0, []⟩).memory Tryd.f3.params.toList Rows.indexPartsSpec.vars false args0.toList 8 = some (ds, [], places) :=
  ⟨[.nil, .agg [.lit (.int .i8 0), .lit (.int .i8 0), .lit (.int .i8 0)]], [], by kernel_rfl⟩

set_option maxRecDepth 100000 in
theorem lifted (os : Os) (started : os.Started) (H : Type) (enc : TypeId × Value → H) (F : Stop.Interp) :
    ReturnsInHanded {} Tryd.checked os 3 .any ((OpenSpec.ofChange Rows.indexPartsSpec).preRow enc Tryd.prog Tryd.f3 Rows.indexPartsRow.domain false Rows.indexPartsRow.laid) (((OpenSpec.ofChange Rows.indexPartsSpec).at F).post enc Tryd.prog Tryd.f3 false true false false) := by
  obtain ⟨ds, places, hx⟩ := reads os enc
  refine returnsInHanded_of_row (C := Tryd.checked) (s := OpenSpec.ofChange Rows.indexPartsSpec) own started (by kernel_rfl) Tryd.func3
    (witness_row_at (enc := enc) (C := Tryd.checked) false (World.laidAll Tryd.prog os Rows.indexPartsRow.laid) args0 (World.laidAll_os _ _ _) (by kernel_rfl) (by kernel_rfl) (by kernel_rfl)
      (OpenSpec.preRow_of_cond 8 hx (by kernel_rfl) (fun k hk => by cases hk) (by kernel_rfl) (laidMet_laidAll _ (by kernel_rfl) (by kernel_rfl)))) ?_
  intro W base args ds gs before hval hW _ _ _ _ hS _
  exact contract H enc W base args ds gs before hval hW hS

theorem said : Rows.IndexPartsSaid :=
  OpenClaim.holds_of_cond 3 Tryd.f3 rfl rfl rfl rfl rfl rfl rfl ⟨rfl, rfl, rfl, rfl, rfl⟩ rfl rfl rfl rfl rfl (by kernel_rfl) Tryd.func3 (by kernel_rfl)
    (of_decide_eq_true (by kernel_rfl)) (by unfold Func.isWrapper; first | (rw [if_pos (by decide +kernel)]; kernel_rfl) | (rw [if_neg (by decide +kernel)]; exact ⟨rfl, rfl⟩))
    (fun os started H enc _ F => by rw [OpenClaim.pre_eq_preRow]; exact lifted os started H enc F)

theorem plain (f : FuncId) (fn : Func) (hf : Tryd.pinned.checked.prog.funcNamed "livery/liverylaw11.IndexParts" = some f) (hfn : Tryd.pinned.checked.prog.funcs[f]? = some fn) :
    false = Tryd.pinned.checked.prog.looks [] ∧ ∀ (j : Nat) t, fn.params[j]? = some t → Tryd.pinned.checked.prog.wantsStandIn t = false := by
  obtain rfl : f = 3 := Option.some.inj ((show Tryd.prog.funcNamed "livery/liverylaw11.IndexParts" = some 3 by kernel_rfl).symm.trans hf) |>.symm
  obtain rfl : fn = Tryd.f3 := (Option.some.inj (Tryd.func3.symm.trans hfn)).symm
  refine ⟨looks_off, fun j t ht => ?_⟩
  rw [Tryd.params3] at ht
  have hm := Array.mem_of_getElem? ht
  have hall : (#[22, 24].all fun u => !Tryd.prog.wantsStandIn u) = true := by kernel_rfl
  have := Array.all_eq_true_iff_forall_mem.1 hall t hm
  show Tryd.prog.wantsStandIn t = false
  simpa using this

/-- THE CARD. -/
theorem card : Rows.IndexPartsCardSaid :=
  Claim7.holds_tied_plain_at .later [] _ _ _ _ said (fun _ h => by cases h) (by kernel_rfl) (fun _ h => by cases h) indexParts_row_tie rfl ⟨rfl, rfl⟩ (by kernel_rfl) rfl plain (by kernel_rfl)
#print axioms card
end Go.Proofs.YtecmppmkidefmaaDoor.indexParts
