/-
  The walk over the test whether two lists of numbers are alike.
-/
import Derived.Test.YtecmppmkidefmaaDoorH13
namespace Go.Proofs.YtecmppmkidefmaaDoor
open Go.RowKit LeafW

theorem ret_bool {a b : Bool} (h : a = b) : Ending.returned (.bool a) = .returned (.bool b) := by rw [h]

theorem ints_cell {w : World} {v : Value} {xs : List Int} (h : w.ownsRow 0 3 1 v xs.length (xs.map (.int .i64))) : ∃ a c, v = .slice a xs.length c ∧ ∀ j z, xs[j]? = some z → ∃ g, a = some ⟨g, 0, none⟩ ∧ w.cell? ⟨g, j, none⟩ = some (.int .i64 z) := by
  rcases own_cases h with ⟨rfl, h0, _⟩ | ⟨g, cap, cur, rfl, hr, _⟩
  · exact ⟨none, 0, by rw [h0], fun j z hz => by rw [List.length_eq_zero_iff.1 h0] at hz; cases hz⟩
  · exact ⟨_, cap, rfl, fun j z hz => ⟨g, rfl, own_cell h j _ (by rw [List.getElem?_map, hz]; rfl)⟩⟩
theorem take_eq_succ {xs ys : List Int} {j : Nat} {x y : Int} (hx : xs[j]? = some x) (hy : ys[j]? = some y) (h : xs.take j = ys.take j) (e : x = y) : xs.take (j + 1) = ys.take (j + 1) := by
  obtain ⟨h1, e1⟩ := List.getElem?_eq_some_iff.1 hx
  obtain ⟨h2, e2⟩ := List.getElem?_eq_some_iff.1 hy
  rw [List.take_succ_eq_append_getElem h1, List.take_succ_eq_append_getElem h2, h, e1, e2, e]

set_option maxHeartbeats 4000000 in
set_option maxRecDepth 100000 in
/-- Are two lists of numbers alike? -/
theorem ints_any (w : World) (v u : Value) (xs ys : List Int) (hv : w.ownsRow 0 3 1 v xs.length (xs.map (.int .i64))) (hu : w.ownsRow 0 3 1 u ys.length (ys.map (.int .i64))) (hl : xs.length < 300000) (_hl' : ys.length < 300000) :
    Calls Tryd.prog 12 #[v, u] w fun e w' => e = .returned (.bool (decide (xs = ys))) ∧ Below w.heap.size w w' := by
  obtain ⟨a, c, rfl, hx⟩ := ints_cell hv
  obtain ⟨b, d, rfl, hy⟩ := ints_cell hu
  have HX := Lib.hid hx
  have HY := Lib.hid hy
  clear hx hy hv hu
  by_cases hlen : xs.length = ys.length
  · obtain ⟨n, hn⟩ : ∃ n, xs.length = n := ⟨_, rfl⟩
    have HN := Lib.hid hn
    have HM := Lib.hid (show ys.length = n by omega)
    rw [hn] at hlen hl ⊢
    rw [← hlen]
    clear hlen hn
    go_enter Tryd.func12, Tryd.ntmps12
    go_wp2
    go_loopw [5] (fun i wr => ∃ j q : Nat, j ≤ n ∧ i = .int .i64 j ∧ wr = w.drewN q ∧ Hid (xs.take j = ys.take j)) (fun i _ => n - (intOf i).toNat)
    case atStart => exact ⟨0, 0, Nat.zero_le _, rfl, rfl, Lib.hid rfl⟩
    case round =>
      obtain ⟨j, q, hj, rfl, rfl, HE⟩ := hrel
      by_cases hlt : j < n
      · obtain ⟨x, hx⟩ : ∃ x, xs[j]? = some x := ⟨_, List.getElem?_eq_getElem (by rw [HN.out]; exact hlt)⟩
        obtain ⟨y, hy⟩ : ∃ y, ys[j]? = some y := ⟨_, List.getElem?_eq_getElem (by rw [HM.out]; exact hlt)⟩
        obtain ⟨g, rfl, e1⟩ := HX.out j x hx
        obtain ⟨g', rfl, e2⟩ := HY.out j y hy
        have i0 : (0 : Int) ≤ (j : Int) := by omega
        have i1 : (j : Int) < (n : Int) := by omega
        have H1 := Lib.hid hx
        have H2 := Lib.hid hy
        clear hx hy
        by_cases hxy : x = y
        · have HS := Lib.hid (take_eq_succ H1.out H2.out HE.out hxy)
          have hb1 : (x == y) = true := by rw [hxy]; exact beq_self_eq_true _
          have hb2 : (x != y) = false := by simp [bne, hb1]
          clear hxy
          go_wp2
          go_quiet (fail)
          go_wp2
          go_roundw
          case rel => exact ⟨j + 1, _, by omega, by go_num, rfl, HS⟩
          case measure => simp [intOf]; omega
        · have hb1 : (x == y) = false := beq_eq_false_iff_ne.2 hxy
          have hb2 : (x != y) = true := by simp [bne, hb1]
          have HD := Lib.hid (show decide (xs = ys) = false from decide_eq_false (fun e => by
            rw [e, H2.out] at H1
            have := H1.out
            simp only [Option.some.injEq] at this
            exact hxy this.symm))
          clear hxy
          go_wp2
          go_quiet (fail)
          go_wp2
          go_ret
          exact ⟨ret_bool HD.out.symm, below_drewN (below_drewN (Below.refl _ _) _) _⟩
      · obtain rfl : j = n := by omega
        have HD := Lib.hid (show decide (xs = ys) = true from decide_eq_true (by
          have := HE.out
          rw [List.take_of_length_le (by rw [HN.out]; exact Nat.le_refl _), List.take_of_length_le (by rw [HM.out]; exact Nat.le_refl _)] at this
          exact this))
        go_wp2
        go_ret
        exact ⟨ret_bool HD.out.symm, below_drewN (Below.refl _ _) _⟩
  · have hne : ((xs.length : Int) == (ys.length : Int)) = false := beq_eq_false_iff_ne.2 (by omega)
    have hne2 : ((xs.length : Int) != (ys.length : Int)) = true := by simp [bne, hne]
    have HD := Lib.hid (show decide (xs = ys) = false from decide_eq_false (fun e => hlen (by rw [e])))
    go_enter Tryd.func12, Tryd.ntmps12
    go_wp2
    go_ret
    exact ⟨ret_bool HD.out.symm, Below.refl _ _⟩

end Go.Proofs.YtecmppmkidefmaaDoor
