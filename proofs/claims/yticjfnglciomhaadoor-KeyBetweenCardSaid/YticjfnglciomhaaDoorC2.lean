/-
  For every two values and every entry number KeyBetween answers yes: a value's entries stand from its least on and below what is behind them, and no other value's do. Its conditions: those that the given statement itself names.
-/
import Derived.Test.YticjfnglciomhaaDoorRow
import Derived.Test.YticjfnglciomhaaDoorL2
namespace Go.Proofs.YticjfnglciomhaaDoor.keyBetween
open Go.ChangeShapes Go.WideShapes Go.ChangeAt Go.RowKit Go.ChangeMaps

set_option maxRecDepth 100000 in
theorem contract (H : Type) (enc : TypeId × Value → H) (W : World) (base : Nat) (args : Array Value) (ds gs : List (DataW H)) (before : List MemPlace)
    (hval : ∀ (j : Nat) t v, Tryd.f8.params[j]? = some t → args[j]? = some v → Value.okWide Tryd.prog W .any base t v)
    (hW : DataW.Whole enc Tryd.prog Tryd.f8.params.toList Rows.keyBetweenSpec.vars false W args.toList ds gs before) (hS : W.ShapedOpen Tryd.prog) :
    Calls Tryd.prog 8 args W fun e W' => ∃ v, e = .returned v ∧ Rows.keyBetweenSpec.post enc Tryd.prog Tryd.f8 false true false false W args v W' := by
  have hW' := hW
  obtain ⟨p, q, hA0, hV, rfl, hfz, hnd⟩ := hW
  have hA : DataW.TrodAll enc Tryd.prog W 0 (fun _ => true) true Tryd.f8.params.toList args.toList ds p := hA0
  rw [Tryd.params8] at hA hval
  obtain ⟨v0, vs0, d0, ds0, p0, q0, hargs, rfl, rfl, h0, r0⟩ := trodAll_cons hA
  obtain ⟨v1, vs1, d1, ds1, p1, q1, rfl, rfl, rfl, h1, r1⟩ := trodAll_cons r0
  obtain ⟨v2, vs2, d2, ds2, p2, q2, rfl, rfl, rfl, h2, r2⟩ := trodAll_cons r1
  obtain ⟨rfl, rfl, rfl⟩ := trodAll_nil r2
  obtain rfl : args = #[v0, v1, v2] := Array.ext' hargs
  obtain ⟨rfl, rfl⟩ := trodVars_none hV
  obtain ⟨k0, n0, f0, s0, rfl, rfl, hn0, hf0, hs0, t0⟩ := open_val (hval 0 24 v0 rfl rfl) h0
  obtain ⟨k1, n1, f1, s1, rfl, rfl, hn1, hf1, hs1, t1⟩ := open_val (hval 1 24 v1 rfl rfl) h1
  obtain ⟨m2, rfl, rfl, rfl, w2⟩ := open_int Tryd.underlying25 (hval 2 25 v2 rfl rfl) h2
  have hm2 : 0 ≤ m2 ∧ m2 ≤ 65535 := by simpa [Lit.wf, IntKind.min, IntKind.max, IntKind.signed, IntKind.bits] using w2
  clear hA0
  simp only [List.append_nil] at hW'
  refine (keyBetween_any k0 n0 f0 s0 k1 n1 f1 s1 m2 hn0 hn1 hf0 hf1 hm2 W (maxAt hS)).mono fun e W' ⟨he, hg⟩ => ?_
  subst he
  exact ⟨_, rfl, post_none hW' (fun _ _ _ => (trodAll_cons_mk (shut_bool Tryd.underlying4 _) trodAll_mk0)) (fun sp => (trodAll_cons_mk (t0 _ _ _ _) (trodAll_cons_mk (t1 _ _ _ _) (trodAll_cons_mk (shut_int Tryd.underlying25 w2) trodAll_mk0)))) (fun _ => rfl)
    hg (ok_one (by kernel_rfl) rfl (okWide_bool_mk Tryd.underlying4 _))⟩

/-- A start that fits. -/
def args0 : Array Value := #[V 0 0 0 ⟨#[]⟩, V 0 0 0 ⟨#[]⟩, .int .u16 0]
theorem reads (os : Os) {H : Type} (enc : TypeId × Value → H) : ∃ ds places, DataW.whole enc Tryd.prog ((World.laidAll Tryd.prog os Rows.keyBetweenRow.laid).forCall (fun _ _ => 0) ⟨#[], args0, []⟩).memory Tryd.f8.params.toList Rows.keyBetweenSpec.vars false args0.toList 8 = some (ds, [], places) :=
  ⟨[.agg [.lit (.int .i64 0), .lit (.int .i64 0), .lit (.float .f64 0), .lit (.string [])], .agg [.lit (.int .i64 0), .lit (.int .i64 0), .lit (.float .f64 0), .lit (.string [])], .lit (.int .u16 0)], [], by kernel_rfl⟩

set_option maxRecDepth 100000 in
theorem lifted (os : Os) (started : os.Started) (H : Type) (enc : TypeId × Value → H) (F : Stop.Interp) :
    ReturnsInHanded {} Tryd.checked os 8 .any ((OpenSpec.ofChange Rows.keyBetweenSpec).preRow enc Tryd.prog Tryd.f8 Rows.keyBetweenRow.domain false Rows.keyBetweenRow.laid) (((OpenSpec.ofChange Rows.keyBetweenSpec).at F).post enc Tryd.prog Tryd.f8 false true false false) := by
  obtain ⟨ds, places, hx⟩ := reads os enc
  refine returnsInHanded_of_row (C := Tryd.checked) (s := OpenSpec.ofChange Rows.keyBetweenSpec) own started (by kernel_rfl) Tryd.func8
    (witness_row_at (enc := enc) (C := Tryd.checked) false (World.laidAll Tryd.prog os Rows.keyBetweenRow.laid) args0 (World.laidAll_os _ _ _) (by kernel_rfl) (by kernel_rfl) (by kernel_rfl)
      (OpenSpec.preRow_of_cond 8 hx (by kernel_rfl) (fun k hk => by cases hk) (by kernel_rfl) (laidMet_laidAll _ (by kernel_rfl) (by kernel_rfl)))) ?_
  intro W base args ds gs before hval hW _ _ _ _ hS _
  exact contract H enc W base args ds gs before hval hW hS

theorem said : Rows.KeyBetweenSaid :=
  OpenClaim.holds_of_cond 8 Tryd.f8 rfl rfl rfl rfl rfl rfl rfl ⟨rfl, rfl, rfl, rfl, rfl⟩ rfl rfl rfl rfl rfl (by kernel_rfl) Tryd.func8 (by kernel_rfl)
    (of_decide_eq_true (by kernel_rfl)) (by unfold Func.isWrapper; first | (rw [if_pos (by decide +kernel)]; kernel_rfl) | (rw [if_neg (by decide +kernel)]; exact ⟨rfl, rfl⟩))
    (fun os started H enc _ F => by rw [OpenClaim.pre_eq_preRow]; exact lifted os started H enc F)

theorem plain (f : FuncId) (fn : Func) (hf : Tryd.pinned.checked.prog.funcNamed "livery/liverylaw03.KeyBetween" = some f) (hfn : Tryd.pinned.checked.prog.funcs[f]? = some fn) :
    false = Tryd.pinned.checked.prog.looks [] ∧ ∀ (j : Nat) t, fn.params[j]? = some t → Tryd.pinned.checked.prog.wantsStandIn t = false := by
  obtain rfl : f = 8 := Option.some.inj ((show Tryd.prog.funcNamed "livery/liverylaw03.KeyBetween" = some 8 by kernel_rfl).symm.trans hf) |>.symm
  obtain rfl : fn = Tryd.f8 := (Option.some.inj (Tryd.func8.symm.trans hfn)).symm
  refine ⟨looks_off, fun j t ht => ?_⟩
  rw [Tryd.params8] at ht
  have hm := Array.mem_of_getElem? ht
  have hall : (#[24, 24, 25].all fun u => !Tryd.prog.wantsStandIn u) = true := by kernel_rfl
  have := Array.all_eq_true_iff_forall_mem.1 hall t hm
  show Tryd.prog.wantsStandIn t = false
  simpa using this

/-- THE CARD. -/
theorem card : Rows.KeyBetweenCardSaid :=
  Claim7.holds_tied_plain_at .later [] _ _ _ _ said (fun _ h => by cases h) (by kernel_rfl) (fun _ h => by cases h) keyBetween_row_tie rfl ⟨rfl, rfl⟩ (by kernel_rfl) rfl plain (by kernel_rfl)
#print axioms card
end Go.Proofs.YticjfnglciomhaaDoor.keyBetween
