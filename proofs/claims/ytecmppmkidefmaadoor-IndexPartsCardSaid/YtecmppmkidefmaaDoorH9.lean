/-
  The walk over a key more, whole; and an empty one's making.
-/
import Derived.Test.YtecmppmkidefmaaDoorH8
namespace Go.Proofs.YtecmppmkidefmaaDoor
open Go.RowKit LeafW

/-- What holds of leaves at all times. -/
structure Ok (s : St) : Prop where
  inv : Inv s.l
  f2 : 2 ≤ s.fan
  f64 : s.fan ≤ 64
  few : ∀ y ∈ s.l, y.ks.length ≤ s.fan

theorem ins_few {s : St} (h : Ok s) (k : ByteArray) : Ok (ins s k).2 ∧ (ins s k).2.l.length ≤ s.l.length + 1 ∧ (ins s k).2.next ≤ s.next + 1 := by
  obtain ⟨a, b, c, _, _⟩ := ins_ok h.inv h.f2 k
  obtain ⟨pre, y, post, e, ha, h1, h2⟩ := at_split h.inv k
  have hf := h.few
  rw [e] at hf
  have hy := hf y (by simp)
  have hi := length_insK y.ks k
  refine ⟨⟨a, by rw [b]; exact h.f2, by rw [b]; exact h.f64, ?_⟩, ?_, c⟩
  · rw [b]
    rw [ins_eq e ha]
    split
    · intro x hx; rw [e] at hx; exact hf x hx
    · split
      · rename_i hr
        intro x hx
        simp only [List.mem_append, List.mem_cons] at hx
        rcases hx with hx | rfl | hx
        · exact hf x (by simp [hx])
        · exact hr
        · exact hf x (by simp [hx])
      · intro x hx
        have := h.f2
        simp only [List.mem_append, List.mem_cons] at hx
        rcases hx with hx | rfl | rfl | hx
        · exact hf x (by simp [hx])
        · simp only [List.length_take]; omega
        · simp only [List.length_drop]; omega
        · exact hf x (by simp [hx])
  · rw [ins_eq e ha]
    split
    · exact Nat.le_succ _
    · split
      · rw [e]; simp
      · rw [e]; simp; omega
theorem rem_few {s : St} (h : Ok s) (k : ByteArray) : Ok (rem s k).2 ∧ (rem s k).2.l.length ≤ s.l.length ∧ (rem s k).2.next = s.next := by
  obtain ⟨a, b, c, _⟩ := rem_ok h.inv k
  obtain ⟨pre, y, post, e, ha, h1, h2⟩ := at_split h.inv k
  have hf := h.few
  rw [e] at hf
  have hy := hf y (by simp)
  have hd : (delK y.ks k).length ≤ y.ks.length := by unfold delK; simp; omega
  have ho : ∀ (l : List Leaf) (n : Nat), (∀ x ∈ l, x.ks.length ≤ n) → ∀ x ∈ open0 l, x.ks.length ≤ n := fun l n hl x hx => by
    cases l with
    | nil => cases hx
    | cons z r =>
      rcases List.mem_cons.1 hx with rfl | hx
      · exact hl z (by simp)
      · exact hl x (by simp [hx])
  refine ⟨⟨a, by rw [b]; exact h.f2, by rw [b]; exact h.f64, ?_⟩, ?_, c⟩
  · rw [b, rem_eq e ha]
    split
    · split
      · refine ho _ _ (fun x hx => ?_)
        rcases List.mem_append.1 hx with hx | hx
        · exact hf x (by simp [hx])
        · exact hf x (by simp [hx])
      · intro x hx
        simp only [List.mem_append, List.mem_cons] at hx
        rcases hx with hx | rfl | hx
        · exact hf x (by simp [hx])
        · exact Nat.le_trans hd hy
        · exact hf x (by simp [hx])
    · intro x hx; rw [e] at hx; exact hf x hx
  · rw [rem_eq e ha]
    split
    · split
      · rw [open0_length, e]; simp
      · rw [e]; simp
    · exact Nat.le_refl _

/-- A key's leaf in memory. -/
theorem LvsAt.found {w : World} {p : Nat} {sv : Value} {ls : List (Nat × Value)} {s : St} (hl : LvsAt w p sv ls s) (ho : Ok s) (hn : s.l.length < 4096) (k : ByteArray) :
    ∃ g N c q v la lb pre post y, sv = .slice (some ⟨g, 0, none⟩) N c ∧ ls = la ++ (q, v) :: lb ∧ s.l = pre ++ y :: post ∧ Found w p g N c q v la lb s.fan s.next pre post y k := by
  obtain ⟨pre, y, post, e, ha, h1, h2⟩ := at_split ho.inv k
  obtain ⟨g, c, rfl, hlen, h0, hc, hm⟩ := hl.slice ho.inv
  have hp : pre.length < ls.length := by rw [hlen, e]; simp
  have hls : ls = ls.take pre.length ++ ls[pre.length] :: ls.drop (pre.length + 1) := by
    conv => lhs; rw [← List.take_append_drop pre.length ls, List.drop_eq_getElem_cons hp]
  obtain ⟨fan, nx, l⟩ := s
  simp only at e ha hlen hn
  subst e
  refine ⟨g, ls.length, c, ls[pre.length].1, ls[pre.length].2, ls.take pre.length, ls.drop (pre.length + 1), pre, post, y, rfl, hls, rfl, ⟨⟨?_, by rw [List.length_take]; omega, ?_, by omega⟩, ho.inv, ha, ho.few y (by simp), ho.f64⟩⟩
  · rw [← hls]; exact hl
  · have := ho.few y (by simp); have := ho.f64; omega

theorem insert_any (w : World) (p : Nat) (sv : Value) (ls : List (Nat × Value)) (s : St) (hl : LvsAt w p sv ls s) (ho : Ok s) (hn : s.l.length < 4096) (hnx : s.next < 4096) (k : ByteArray) (hk : k.size ≤ 1024) :
    Calls Tryd.prog 24 #[.pointer (some ⟨p, 0, none⟩), .string k] w fun e w' => e = .returned (ansV (ins s k).1) ∧ Changed w (foot p sv ls) p (ins s k).2 w' := by
  obtain ⟨g, N, c, q, v, la, lb, pre, post, y, rfl, rfl, e, hf⟩ := hl.found ho hn k
  obtain ⟨fan, nx, l⟩ := s
  simp only at e hnx hf
  subst e
  rw [ins_eq (s := ⟨fan, nx, pre ++ y :: post⟩) rfl hf.at']
  by_cases h1 : k ∈ y.ks
  · rw [if_pos h1]
    exact (insert_found hf hk h1).mono fun e w' ⟨he, hb⟩ => ⟨he, _, _, hl.fresh hb, fun b hb => .inl hb, Keep.of_below hb _⟩
  rw [if_neg h1]
  by_cases h2 : (insK y.ks k).length ≤ fan
  · rw [if_pos h2]
    exact insert_room hf hk h1 h2
  · rw [if_neg h2]
    have hlen := length_insK y.ks k
    have hf2 := ho.f2
    simp only at hf2
    obtain ⟨kC, hkC⟩ : ∃ kC, (insK y.ks k)[((insK y.ks k).length + 1) / 2]? = some kC := ⟨_, List.getElem?_eq_getElem (by omega)⟩
    have hg : (insK y.ks k).getD (((insK y.ks k).length + 1) / 2) ⟨#[]⟩ = kC := by rw [List.getD_eq_getElem?_getD, hkC]; rfl
    rw [hg]
    exact insert_split hf hk h1 (by omega) hf2 hnx _ rfl _ rfl kC hkC

set_option maxHeartbeats 2000000 in
set_option maxRecDepth 100000 in
theorem new_any (fan : Nat) (h2 : 2 ≤ fan) (h64 : fan ≤ 64) (w : World) :
    Calls Tryd.prog 21 #[.int .i64 fan] w fun e w' => ∃ p, e = .returned (.tuple #[.pointer (some ⟨p, 0, none⟩), .int .i64 0]) ∧
      ∃ sv ls, LvsAt w' p sv ls ⟨fan, 2, [⟨1, ⟨#[]⟩, []⟩]⟩ ∧ (∀ b ∈ foot p sv ls, w.heap.size ≤ b) ∧ Below w.heap.size w w' := by
  have a1 : (2 : Int) ≤ (fan : Int) := by omega
  have a2 : (fan : Int) ≤ 64 := by omega
  go_enter Tryd.func21, Tryd.ntmps21
  go_wp2
  go_ret2
  have s1 := World.size_alloc w (.cells #[.int .i64 1, .string ⟨#[]⟩, .slice none 0 0] 70)
  refine ⟨w.heap.size + 1 + 1, rfl, .slice (some ⟨w.heap.size + 1, 0, none⟩) 1 1, [(w.heap.size, .slice none 0 0)], ⟨?_, ?_, rfl, ?_, ?_⟩, ?_, ?_⟩
  · exact row_new_at (by rw [World.size_alloc, World.size_alloc]) _ _
  · refine (own_mk (cur := #[.pointer (some ⟨w.heap.size, 0, none⟩)]) ((row_new_at s1 _ _).alloc _) (Nat.le_refl _) (by unfold maxLen; omega) rfl rfl)
  · intro i q y hq hy
    cases i with
    | zero =>
      simp only [List.getElem?_cons_zero, Option.some.injEq] at hq hy
      subst hq hy
      exact ⟨⟨⟨#[]⟩, ((Row5.new w _ _).alloc _).alloc _, fun h => by cases h⟩, World.ownsRow_nil _ _ _ _⟩
    | succ i => simp at hq
  · simp [foot, footL, Value.ownBlock]; omega
  · intro b hb
    simp [foot, footL, Value.ownBlock] at hb
    omega
  · exact (((Below.refl _ _).alloc (Nat.le_refl _) _).alloc (by simp) _).alloc (by simp; omega) _

end Go.Proofs.YtecmppmkidefmaaDoor
