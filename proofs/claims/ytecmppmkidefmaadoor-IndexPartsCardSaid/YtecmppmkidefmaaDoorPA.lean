/-
  Numbers appended to numbers, whatever they are.
-/
import Derived.Test.YtecmppmkidefmaaDoorP2
import Derived.Deep.Upon
namespace Go.Proofs.YtecmppmkidefmaaDoor
open Go.RowKit LeafW

theorem own_nothing {w : World} {B g : Nat} {T : TypeId} (hg : Row5 w g T #[]) (hB : B ≤ g) : w.ownsRow B T 1 (.slice (some ⟨g, 0, none⟩) 0 0) 0 [] :=
  ⟨rfl, .inr ⟨g, 0, #[], rfl, hB, hg, Nat.le_refl _, Nat.zero_le _, rfl, rfl⟩⟩

theorem append_ints {w : World} {ops : Array Oper} {rest : List Oper} {o : Oper} {a : Act} {Q : Exit → Act → World → Prop} (hgd : o.guard = none) (s x : Operand)
    (ho : o.op = .call { callee := .builtin .append, args := #[s, x], argTypes := #[41, 41] }) (base : Nat) (v u : Value) (xs ys : List Int) (hs : a.eval s = v) (hx : a.eval x = u)
    (hown : w.ownsRow base 3 1 v xs.length (xs.map (.int .i64))) (hu : w.ownsRow 0 3 1 u ys.length (ys.map (.int .i64))) (hxl : xs.length ≤ 100000) (hyl : ys.length ≤ 100000) (hbase : base ≤ w.heap.size)
    (h : ∀ v' w', w'.ownsRow base 3 1 v' (xs ++ ys).length ((xs ++ ys).map (.int .i64)) → Below base w w' → wpList Tryd.prog ops Q rest (a.put o.dst v') w') : wpList Tryd.prog ops Q (o :: rest) a w := by
  obtain ⟨i0, hi0, hz0, hzs, hzb⟩ := info_parts infoInt
  rcases own_cases hu with ⟨rfl, h0, _⟩ | ⟨g, cap, cur, rfl, hg, hc, hm, hs', ht⟩
  · obtain rfl : ys = [] := List.length_eq_zero_iff.1 h0
    refine wpList_plain hgd fun _ hK => ?_
    have hv : ∃ b n c, v = .slice b n c ∧ n ≤ c := by
      rcases own_cases hown with ⟨rfl, h1, _⟩ | ⟨g, cap, cur, rfl, _, hc, _⟩
      · exact ⟨none, 0, 0, rfl, Nat.le_refl _⟩
      · exact ⟨_, _, _, rfl, hc⟩
    obtain ⟨b, n, c, rfl, hle⟩ := hv
    have hr := run_append_nothing (P := Tryd.prog) w 41 41 o.type 3 i0 Tryd.underlying41 hi0 b n c hle (.slice none 0 0) (Src.ofNil w Tryd.underlying41 0)
    unfold Oper.wp execOp
    simp only [ho, resolve, invoke, builtin, Sem.run_bind, Sem.run_pure, Result.andThen_ok, List.map_toArray, List.map_cons, List.map_nil, hs, hx, hr]
    exact hK _ _ (h _ _ (by simpa using hown) (Below.refl _ _))
  · refine wpList_append_own w hgd s x 41 ho base 3 i0 (.int .i64 0) 1 8 Tryd.underlying41 hi0 hz0 hzs hzb rfl (by decide) v xs.length (xs.map (.int .i64)) hs hown ⟨g, 0, none⟩ ys.length cap (ys.map (.int .i64)) hx (by simp)
      (fun j z hj => ?_) (fun z hz => by obtain ⟨k, _, rfl⟩ := List.mem_map.1 hz; rfl) (by unfold maxLen; omega) (by omega) hbase ?_
    · exact hu.cells (g := g) rfl j z hj
    · intro v' w' h1 h2 _
      exact h v' w' (by rw [List.length_append, List.map_append]; exact h1) ((Below.refl base w).grown h2 hbase (fun k hk => (hown.lt k hk).1))

end Go.Proofs.YtecmppmkidefmaaDoor
