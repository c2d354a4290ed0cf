/-
  The walks over the numbers of entries: the iterator over keys.
-/
import Derived.Test.YtecmppmkidefmaaDoorH11
import Derived.Test.YtecmppmkidefmaaDoorT4
import Derived.RangeFuncLeaves
import Derived.Shelf.Abstract
import Derived.OwnWalkIn
import Derived.TacticsInMore
import Derived.LoopNIn
import Derived.LoopIn
namespace Go.Proofs.YtecmppmkidefmaaDoor
open Go.RowKit LeafW Go.Shelf

attribute [local go_sem] Oper.semAt_some

/-- The number of an entry. -/
def tidOf (s : ByteArray) : Int := match firstL s.toList with
  | some (_, [a, b]) => (a.toNat : Int) * 256 + b.toNat
  | _ => 0
/-- Is a text an entry's key? -/
def IsEntry (s : ByteArray) : Prop := s.size ≤ 140737488351232 ∧ ∃ v a b, firstL s.toList = some (v, [a, b])

/-- All blocks below n₀ but one lie as they lay. -/
structure KpB (n₀ X : Nat) (W W' : World) : Prop where
  os : W'.os = W.os
  tape : W'.tape = W.tape
  output : W'.output = W.output
  size : W.heap.size ≤ W'.heap.size
  block : ∀ k, k < n₀ → k ≠ X → W'.heap[k]? = W.heap[k]?
theorem KpB.refl (n₀ X : Nat) (W : World) : KpB n₀ X W W := ⟨rfl, rfl, rfl, Nat.le_refl _, fun _ _ _ => rfl⟩
theorem KpB.trans {n₀ X : Nat} {A B C : World} (h : KpB n₀ X A B) (k : KpB n₀ X B C) : KpB n₀ X A C :=
  ⟨k.os.trans h.os, k.tape.trans h.tape, k.output.trans h.output, Nat.le_trans h.size k.size, fun i hi hx => (k.block i hi hx).trans (h.block i hi hx)⟩
theorem KpB.of_below {n₀ X : Nat} {A B : World} (h : Below n₀ A B) : KpB n₀ X A B := ⟨h.os, h.tape, h.output, h.size, fun k hk _ => h.block k hk⟩
theorem KpB.cell {n₀ X : Nat} {A B : World} (h : KpB n₀ X A B) {b : Nat} (hb : b < n₀) (hx : b ≠ X) (j : Nat) : B.cell? ⟨b, j, none⟩ = A.cell? ⟨b, j, none⟩ := World.cell?_of_block (w := A) (h.block b hb hx)
theorem kpB_b {n₀ X : Nat} {w : World} (h : n₀ ≤ w.heap.size) (W : World) (l : Nat) (o o' : Obj) (hl : w.heap.size ≤ l) (h1 : W.heap[l]? = some o) (h2 : o.isCells = false) (h3 : o.isWalk = false) : KpB n₀ X W (W.putObj l o') :=
  KpB.of_below (belowK_b h W l o o' hl h1 h2 h3)

theorem grown_of_below {W W' : World} (h : Below W.heap.size W W') : W.grownBy W' none := ⟨h.os, h.tape, h.output, h.size, fun k hk _ => h.block k hk⟩

theorem split_entry (s : ByteArray) (h : IsEntry s) (w : World) :
    Calls Tryd.prog 60 #[.string s] w fun e w' => ∃ (k n : Int) (f : Nat) (t : ByteArray), e = .returned (.tuple #[V k n f t, .int .i64 (tidOf s), .int .i64 0]) ∧ Below w.heap.size w w' := by
  obtain ⟨hs, v, a, b, hf⟩ := h
  refine (split_any s hs w).mono fun e w' ⟨he, hb⟩ => ⟨v.k, v.n, v.f, ⟨v.l.toArray⟩, ?_, hb⟩
  rw [he]
  unfold splitV tidOf
  rw [hf]

set_option maxRecDepth 100000 in
set_option maxHeartbeats 1000000 in
theorem entries_in (n : Nat) (v : Value) (w : World) (hv : v.oneCell' = true) :
    CallsIn Fence.wide n Tryd.prog 44 #[v] w fun e w' => e = .returned (.func (.func 59) #[] #[.pointer (some ⟨w.heap.size, 0, none⟩)]) ∧ w' = w.alloc (.cells #[v] 68) := by
  refine callsIn_of_wp Tryd.func44 rfl trivial ?_ rfl
  simp only [Tryd.ntmps44, List.size_toArray, List.length_cons, List.length_nil, Nat.reduceAdd, Nat.reduceSub, Array.replicate_succ, Array.replicate_zero, List.push_toArray, List.append_toArray, List.nil_append, List.cons_append]
  gi_wp2
  go_ret
  exact ⟨rfl, rfl⟩

set_option maxRecDepth 100000 in
set_option maxHeartbeats 4000000 in
/-- The closure: each key's number goes to the loop's body. -/
theorem entries1_in (n : Nat) (hn : 1 ≤ n) (l Bs n₀ X : Nat) (sv : Value) (ks : List ByteArray) (J Jx : List Int → World → Prop) (W : World) (hE : ∀ s ∈ ks, IsEntry s) (hlen : ks.length < 300000)
    (hY : ∀ pre x W, J pre W → pre.length < ks.length → YieldAt Fence.wide (n - 1) Tryd.prog l #[.int .i64 x] W fun e W' =>
      (e = .returned (.bool true) ∧ J (pre ++ [x]) W' ∧ KpB n₀ X W W') ∨ (e = .returned (.bool false) ∧ Jx (pre ++ [x]) W'))
    (hJ : AbidesFrom W.heap.size J) (hn₀ : n₀ ≤ W.heap.size) (hBs : W.cell? ⟨Bs, 0, none⟩ = some sv) (hown : W.ownsRow 0 9 1 sv ks.length (ks.map .string)) (hb : ∀ b, sv.ownBlock = some b → b < n₀ ∧ b ≠ X) (h0 : J [] W) :
    CallsIn Fence.wide n Tryd.prog 59 #[.func (.yield l) #[] #[], .pointer (some ⟨Bs, 0, none⟩)] W fun e W' => (∃ v, e = .returned v) ∧
      ((∃ ys, ys = ks.map tidOf ∧ J ys W') ∨ (∃ pre, (∃ k, k ≤ ks.length ∧ pre = (ks.take k).map tidOf) ∧ Jx pre W')) := by
  have HE := Lib.hid hE
  have HJ := Lib.hid hJ
  have HO := Lib.hid hown
  obtain ⟨N, hN⟩ : ∃ N, ks.length = N := ⟨_, rfl⟩
  obtain ⟨a, cap, rfl⟩ : ∃ a cap, sv = .slice a N cap := by
    rcases own_cases hown with ⟨rfl, h0, _⟩ | ⟨g, cap, cur, rfl, _⟩
    · exact ⟨none, 0, by rw [← hN, h0]⟩
    · exact ⟨_, cap, by rw [hN]⟩
  have HN := Lib.hid hN
  rw [hN] at hlen hY ⊢
  have HB := Lib.hid hb
  clear hE hJ hown hN hb
  refine callsIn_of_wp Tryd.func59 rfl trivial ?_ rfl
  simp only [Tryd.ntmps59, List.size_toArray, List.length_cons, List.length_nil, Nat.reduceAdd, Nat.reduceSub, Array.replicate_succ, Array.replicate_zero, List.push_toArray, List.append_toArray, List.nil_append, List.cons_append]
  gi_wp2
  gi_loopw [10] (fun i wr => ∃ k : Nat, k ≤ N ∧ i = .int .i64 k ∧ J ((ks.take k).map tidOf) wr ∧ KpB n₀ X W wr) (fun i _ => N - (intOf i).toNat)
  case atStart => exact ⟨0, Nat.zero_le _, rfl, h0, KpB.refl _ _ _⟩
  case round =>
    obtain ⟨k, hk, rfl, hJs, hnx⟩ := hrel
    by_cases hlt : k < N
    · obtain ⟨x, hx⟩ : ∃ x, ks[k]? = some x := ⟨_, List.getElem?_eq_getElem (by rw [HN.out]; exact hlt)⟩
      have hxe := HE.out x (List.mem_of_getElem? hx)
      obtain ⟨g, hg, hgl, hgx⟩ : ∃ g, a = some ⟨g, 0, none⟩ ∧ g < n₀ ∧ g ≠ X := by
        have hO := HO.out
        rw [HN.out] at hO
        rcases own_cases hO with ⟨_, h0, _⟩ | ⟨g', cap', cur, e, hr, _⟩
        · omega
        · cases e; exact ⟨g', rfl, HB.out g' rfl⟩
      subst hg
      have ex : wr.cell? ⟨g, k, none⟩ = some (.string x) := (hnx.cell hgl hgx k).trans (own_cell (by have := HO.out; rw [HN.out] at this; exact this) k (.string x) (by rw [List.getElem?_map, hx]; rfl))
      have HS := Lib.hid (show (ks.take (k + 1)).map tidOf = (ks.take k).map tidOf ++ [tidOf x] by
        obtain ⟨hk', e⟩ := List.getElem?_eq_some_iff.1 hx
        rw [List.take_succ_eq_append_getElem hk', e]; simp)
      have hpl : ((ks.take k).map tidOf).length < N := by rw [List.length_map, List.length_take, HN.out]; omega
      have HXE := Lib.hid hxe
      have HX := Lib.hid hx
      obtain ⟨T, hT⟩ : ∃ T, tidOf x = T := ⟨_, rfl⟩
      have HT := Lib.hid hT
      rw [hT] at HS
      clear hx hxe hT
      gi_wp2_with (refine ⟨trivial, ?_⟩; gi_at_call 60; refine (callsIn_wide.2 (split_entry x HXE.out _)).mono ?_; rintro e w1 ⟨kk, nn, ff, tt, rfl, hbel⟩; rw [HT.out]; have hgr : Below wr.heap.size wr (w1.alloc (.cells #[.int .i64 kk, .int .i64 nn, .float .f64 ff, .string tt] 33)) := hbel.alloc hbel.size _; have hJ1 := HJ.out _ _ _ none hJs (grown_of_below hgr) (fun r e => by cases e); obtain ⟨fn, tmps, assign, body, hy, hR⟩ := hY _ T _ hJ1 hpl; have HGR := Lib.hid hgr; clear hbel hgr hJ1)
      refine hR.mono ?_
      rintro e W3 (⟨rfl, hJ3, hk3⟩ | ⟨rfl, hJx3⟩)
      · gi_wp2
        go_roundw
        case rel => exact ⟨k + 1, by omega, by simp, by rw [HS.out]; exact hJ3, (hnx.trans (KpB.of_below (HGR.out.mono (Nat.le_trans hn₀ hnx.size)))).trans hk3⟩
        case measure => simp [intOf]; omega
      · gi_wp2
        refine bodyPost_ret (results_none rfl _ _ _) rfl ?_
        exact ⟨⟨_, rfl⟩, .inr ⟨_, ⟨k + 1, by omega, HS.out.symm⟩, hJx3⟩⟩
    · obtain rfl : k = N := by omega
      gi_wp2
      go_end0
      exact ⟨⟨_, rfl⟩, .inl ⟨_, rfl, by rw [← HN.out, List.take_length] at hJs; exact hJs⟩⟩

/-- The iterator over keys gives their numbers. -/
theorem entries_stops (n : Nat) (hn : 1 ≤ n) (Bs n₀ X : Nat) (sv : Value) (ks : List ByteArray) (hE : ∀ s ∈ ks, IsEntry s) (hlen : ks.length < 300000) (w : World) (hBs : Bs < w.heap.size) (hn₀ : n₀ ≤ w.heap.size)
    (hc : w.cell? ⟨Bs, 0, none⟩ = some sv) (hown : w.ownsRow 0 9 1 sv ks.length (ks.map .string)) (hb : ∀ b, sv.ownBlock = some b → b < n₀ ∧ b ≠ X) :
    SeqStopsK Fence.wide n Tryd.prog 59 #[.pointer (some ⟨Bs, 0, none⟩)] (fun x : Int => #[Value.int .i64 x]) (KpB n₀ X) (fun ys => ys = ks.map tidOf) (fun _ => True) ks.length w := fun l J Jx W hW hJ _ hY h0 => by
  refine (entries1_in n hn l Bs n₀ X sv ks J Jx W hE hlen hY hJ (Nat.le_trans hn₀ hW.size) ((hW.cell (p := ⟨Bs, 0, none⟩) hBs).trans hc) ((Keep.of_below hW []).own hown (fun _ _ c => by cases c)) hb h0).mono ?_
  rintro e W' ⟨he, ⟨ys, rfl, hj⟩ | ⟨pre, _, hj⟩⟩
  · exact ⟨he, .inl ⟨_, rfl, hj⟩⟩
  · exact ⟨he, .inr ⟨pre, trivial, hj⟩⟩

end Go.Proofs.YtecmppmkidefmaaDoor
