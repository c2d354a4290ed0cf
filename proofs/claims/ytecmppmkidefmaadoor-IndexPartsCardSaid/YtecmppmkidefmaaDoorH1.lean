/-
  The walk over the place of a key's leaf.
-/
import Derived.Test.YtecmppmkidefmaaDoorHeap
import Derived.Deep.LoopGhost
import Derived.LoopTactic
import Derived.WalkKit
import Derived.WalkLawsBesides
namespace Go.Proofs.YtecmppmkidefmaaDoor
open Go.RowKit LeafW

theorem LvsAt.slice {w : World} {p : Nat} {sv : Value} {ls : List (Nat × Value)} {s : St} (hl : LvsAt w p sv ls s) (hI : Inv s.l) :
    ∃ g cap, sv = .slice (some ⟨g, 0, none⟩) ls.length cap ∧ ls.length = s.l.length ∧ 0 < ls.length ∧ ls.length ≤ cap ∧ cap ≤ maxLen := by
  have h0 : 0 < ls.length := by rw [hl.len]; exact List.length_pos_iff.2 hI.ne
  rcases own_cases hl.own with ⟨_, hn, _⟩ | ⟨g, cap, cur, hv, _, hc, hm, _⟩
  · omega
  · exact ⟨g, cap, hv, hl.len, h0, hc, hm⟩
theorem LvsAt.ptr {w : World} {p g cap : Nat} {ls : List (Nat × Value)} {s : St} (hl : LvsAt w p (.slice (some ⟨g, 0, none⟩) ls.length cap) ls s) (j : Nat) (q : Nat × Value) (hq : ls[j]? = some q) :
    w.cell? ⟨g, j, none⟩ = some (.pointer (some ⟨q.1, 0, none⟩)) := own_cell hl.own j _ (by rw [List.getElem?_map, hq]; rfl)

theorem ret_int {k : IntKind} {a b : Int} (h : a = b) : Ending.returned (.int k a) = .returned (.int k b) := by rw [h]

theorem atGo_zero (l : List Leaf) (k : ByteArray) (A : Nat) (h : atL l k = A) (hn : 0 < l.length) : atGo k (l.drop 1) 0 = A := by
  cases l with
  | nil => cases hn
  | cons y r => exact h
theorem atGo_stop {l : List Leaf} {k : ByteArray} {A j : Nat} {y : Leaf} (hy : l[j + 1]? = some y) (h : atGo k (l.drop (j + 1)) j = A) (hk : lt k y.b = true) : A = j := by
  obtain ⟨hj, e⟩ := List.getElem?_eq_some_iff.1 hy
  rw [List.drop_eq_getElem_cons hj, e] at h
  simp only [atGo, hk, if_true] at h
  exact h.symm
theorem atGo_on {l : List Leaf} {k : ByteArray} {A j : Nat} {y : Leaf} (hy : l[j + 1]? = some y) (h : atGo k (l.drop (j + 1)) j = A) (hk : lt k y.b = false) : atGo k (l.drop (j + 1 + 1)) (j + 1) = A := by
  obtain ⟨hj, e⟩ := List.getElem?_eq_some_iff.1 hy
  rw [List.drop_eq_getElem_cons hj, e] at h
  simp only [atGo, hk, Bool.false_eq_true, if_false] at h
  exact h
theorem atGo_end {l : List Leaf} {k : ByteArray} {A j : Nat} (hj : l.length ≤ j + 1) (h : atGo k (l.drop (j + 1)) j = A) : A = j := by
  rw [List.drop_eq_nil_of_le hj] at h
  exact h.symm

set_option maxHeartbeats 4000000 in
set_option maxRecDepth 100000 in
/-- Where a key's leaf stands. -/
theorem at_any (w : World) (p : Nat) (sv : Value) (ls : List (Nat × Value)) (s : St) (hl : LvsAt w p sv ls s) (hI : Inv s.l) (k : ByteArray) :
    Calls Tryd.prog 36 #[.pointer (some ⟨p, 0, none⟩), .string k] w fun e w' => e = .returned (.int .i64 (atL s.l k)) ∧ w = w' := by
  obtain ⟨g, cap, rfl, hlen, h0, hc, hm⟩ := hl.slice hI
  obtain ⟨A, hA⟩ : ∃ A, atL s.l k = A := ⟨_, rfl⟩
  have hA0 := atGo_zero s.l k A hA (by omega)
  rw [hA]
  obtain ⟨n, hn⟩ : ∃ n, ls.length = n := ⟨_, rfl⟩
  have HC : ∀ j, j < n → ∃ q bd, ∃ y : Leaf, w.cell? ⟨g, j, none⟩ = some (.pointer (some ⟨q, 0, none⟩)) ∧ w.cell? ⟨q, 1, none⟩ = some (.string bd) ∧ s.l[j]? = some y ∧ (j ≠ 0 → bd = y.b) := fun j hj => by
    obtain ⟨q, hq⟩ : ∃ q, ls[j]? = some q := ⟨_, List.getElem?_eq_getElem (by omega)⟩
    obtain ⟨y, hy⟩ : ∃ y, s.l[j]? = some y := ⟨_, List.getElem?_eq_getElem (by omega)⟩
    obtain ⟨bd, hr, hb⟩ := (hl.each j q y hq hy).row
    exact ⟨q.1, bd, y, hl.ptr j q hq, hr.cell 1, hy, fun h => hb (by simp [h])⟩
  have c0 := hl.row.cell 1
  have HC := Lib.hid HC
  rw [hn] at hc h0 hlen c0
  clear hl hn hA
  have HA := Lib.hid hA0
  clear hA0
  have HL := Lib.hid hlen
  clear hlen
  unfold maxLen at hm
  have hn63 : n ≤ 9223372036854775807 := by omega
  clear hm hc
  go_enter Tryd.func36, Tryd.ntmps36
  go_wp2
  go_step3
  go_wp2
  go_step3
  go_wp2
  go_loopg [5, 13] n (fun d s5 s13 wr => ∃ j : Nat, j ≤ n ∧ s13 = .int .i64 j ∧ s5 = .int .i64 ((j - 1 : Nat) : Int) ∧ d = n - j ∧ wr = w ∧ Hid (1 ≤ j → atGo k (s.l.drop j) (j - 1) = A))
  case atStart => exact ⟨0, Nat.zero_le _, rfl, rfl, rfl, rfl, Lib.hid (fun h => absurd h (by omega))⟩
  case round =>
    obtain ⟨j, hj, rfl, rfl, rfl, rfl, HG⟩ := hrel
    by_cases hlt : j < n
    · obtain ⟨q, bd, y, e0, e1, hy, hb⟩ := HC.out j hlt
      have HY := Lib.hid hy
      clear hy
      cases j with
      | zero =>
        clear hb
        go_wp2
        go_roundg (n - 1)
        case measure => omega
        case rel => exact ⟨1, by omega, by go_num, by go_num, rfl, rfl, Lib.hid (fun _ => HA.out)⟩
      | succ i =>
        obtain rfl := hb (by omega)
        clear hb
        have hg := HG.out (by omega)
        have on : lt k y.b = false → Op.bytesLess y.b.toList k.toList = true ∨ (Op.bytesLess y.b.toList k.toList = false ∧ (y.b.toList == k.toList) = true) := fun h => by
          rcases lt_total y.b k with e | e | e
          · exact .inl e
          · exact .inr ⟨by rw [e]; exact KeyW.less_irrefl _, by rw [e]; exact beq_self_eq_true _⟩
          · rw [e] at h; cases h
        cases hk : lt k y.b
        · have H2 := Lib.hid (atGo_on HY.out hg hk)
          have hc := on hk
          clear hg hk on
          rcases hc with hk' | ⟨hk1, hk2⟩
          all_goals
            go_wp2
            go_roundg (n - (i + 1 + 1))
            case measure => omega
            case rel => exact ⟨i + 1 + 1, by omega, by go_num, by go_num, rfl, rfl, Lib.hid (fun _ => H2.out)⟩
        · have hk1 : Op.bytesLess y.b.toList k.toList = false := lt_asymm hk
          have hk2 : (y.b.toList == k.toList) = false := beq_eq_false_iff_ne.2 (fun e => lt_ne hk (ext e.symm))
          have H2 := Lib.hid (atGo_stop HY.out hg hk)
          clear hg hk on
          go_wp2
          rw [Exit.noGoto_ret]
          go_ret
          exact ⟨ret_int (by have := H2.out; omega), rfl⟩
    · obtain ⟨i, rfl⟩ : ∃ i, j = i + 1 := ⟨j - 1, by omega⟩
      have H2 := Lib.hid (atGo_end (by have := HL.out; omega) (HG.out (by omega)))
      go_wp2
      rw [Exit.noGoto_ret]
      go_ret
      exact ⟨ret_int (by have := H2.out; omega), rfl⟩

end Go.Proofs.YtecmppmkidefmaaDoor
