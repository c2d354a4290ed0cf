/-
  The walks over: is a key there, how many there are, are two lists of numbers alike.
-/
import Derived.Test.YtecmppmkidefmaaDoorH9
namespace Go.Proofs.YtecmppmkidefmaaDoor
open Go.RowKit LeafW

theorem Found.drewN {w : World} {p g N c q : Nat} {v : Value} {la lb : List (Nat × Value)} {fan nx : Nat} {pre post : List Leaf} {y : Leaf} {k : ByteArray} (h : Found w p g N c q v la lb fan nx pre post y k) (n : Nat) :
    Found (w.drewN n) p g N c q v la lb fan nx pre post y k := h.fresh (below_drewN (Below.refl _ _) n)
theorem at_quiet {w : World} {n : Nat} (p : Nat) (sv : Value) (ls : List (Nat × Value)) (s : St) (hl : LvsAt w p sv ls s) (hI : Inv s.l) (k : ByteArray) (i : Nat) (hi : atL s.l k = i) :
    Calls Tryd.prog 36 #[.pointer (some ⟨p, 0, none⟩), .string k] (w.drewN n) fun e w' => e = .returned (.int .i64 i) ∧ ∃ m, w' = w.drewN m :=
  (at_at (w.drewN n) p sv ls s (hl.fresh (below_drewN (Below.refl _ _) n)) hI k i hi).mono fun _ _ ⟨a, b⟩ => ⟨a, n, b.symm⟩
theorem search_quiet {w : World} {n : Nat} (v : Value) (ks : List ByteArray) (h : w.ownsRow 0 9 1 v ks.length (ks.map .string)) (hs : Srt ks) (hbig : ks.length < 4611686018427387904) (k : ByteArray) (p : Nat) (b : Bool) (hp : pos ks k = p) (hb : decide (k ∈ ks) = b) :
    Calls Tryd.prog 37 #[v, .string k] (w.drewN n) fun e w' => e = .returned (.tuple #[.int .i64 p, .bool b]) ∧ ∃ m, w' = w.drewN m :=
  Calls.quiet_of (search_at (w.drewN n) v ks ((keep_drewN [] w n).own h (fun _ _ c => by cases c)) hs hbig k p b hp hb)

set_option maxHeartbeats 4000000 in
set_option maxRecDepth 100000 in
/-- Is a key there? -/
theorem has_any (w : World) (p : Nat) (sv : Value) (ls : List (Nat × Value)) (s : St) (hl : LvsAt w p sv ls s) (ho : Ok s) (hn : s.l.length < 4096) (k : ByteArray) :
    Calls Tryd.prog 32 #[.pointer (some ⟨p, 0, none⟩), .string k] w fun e w' => e = .returned (.bool (decide (k ∈ content s.l))) ∧ Below w.heap.size w w' := by
  obtain ⟨g, N, c, q, v, la, lb, pre, post, y, rfl, rfl, e, hf⟩ := hl.found ho hn k
  have hm : decide (k ∈ y.ks) = decide (k ∈ content s.l) := by
    obtain ⟨pre', y', post', e', ha, h1, h2⟩ := at_split ho.inv k
    have hl' : pre.length = pre'.length := by rw [← ha, e]; exact hf.at'.symm
    have hy : y = y' := by
      have h3 : s.l[pre.length]? = some y := by rw [e]; simp
      rw [e', hl'] at h3
      simpa using h3.symm
    subst hy
    exact decide_eq_decide.2 (mem_at ho.inv e' h1 h2).symm
  obtain ⟨B, hB⟩ : ∃ B, decide (k ∈ content s.l) = B := ⟨_, rfl⟩
  rw [hB] at hm ⊢
  have HF := Lib.hid hf
  have HM := Lib.hid hm
  obtain ⟨P, hP⟩ : ∃ P, pos y.ks k = P := ⟨_, rfl⟩
  have HP := Lib.hid hP
  have p1 := hf.here.p1; have gi := hf.here.gi; have q2 := hf.here.q2
  have i0 : (0 : Int) ≤ (pre.length : Int) := by omega
  have i1 : (pre.length : Int) < (N : Int) := by have := hf.here.lt; omega
  clear hf hm hP hB e hl
  go_enter Tryd.func32, Tryd.ntmps32
  go_wp2
  go_quiet ((first | (go_at_call 36; exact at_quiet _ _ _ _ HF.out.here.hl HF.out.inv _ _ HF.out.at') | (go_at_call 37; exact search_quiet _ _ HF.out.here.own HF.out.srt (by have := HF.out.here.ks; omega) _ _ _ HP.out HM.out)))
  go_wp2
  go_ret
  exact ⟨rfl, below_drewN (Below.refl _ _) _⟩

theorem content_take {l : List Leaf} {j : Nat} {y : Leaf} (h : l[j]? = some y) : content (l.take (j + 1)) = content (l.take j) ++ y.ks := by
  obtain ⟨hj, e⟩ := List.getElem?_eq_some_iff.1 h
  rw [List.take_succ_eq_append_getElem hj, e, content_app, content_cons]; simp [content]
theorem content_few {n : Nat} : ∀ {l : List Leaf}, (∀ y ∈ l, y.ks.length ≤ n) → (content l).length ≤ n * l.length
  | [], _ => by simp [content]
  | y :: r, h => by
    have := content_few (l := r) (fun z hz => h z (by simp [hz]))
    have := h y (by simp)
    rw [content_cons, List.length_append, List.length_cons, Nat.mul_add]; omega

/-- A leaf's pointer and its keys' slice, as cells. -/
theorem LvsAt.at' {w : World} {p g N c : Nat} {ls : List (Nat × Value)} {s : St} (hl : LvsAt w p (.slice (some ⟨g, 0, none⟩) N c) ls s) (hN : N = ls.length) (j : Nat) (y : Leaf) (hy : s.l[j]? = some y) :
    ∃ q a cap, w.cell? ⟨g, j, none⟩ = some (.pointer (some ⟨q, 0, none⟩)) ∧ w.cell? ⟨q, 0, none⟩ = some (.int .i64 y.n) ∧ w.cell? ⟨q, 2, none⟩ = some (.slice a y.ks.length cap) ∧
      w.ownsRow 0 9 1 (.slice a y.ks.length cap) y.ks.length (y.ks.map .string) ∧ g < w.heap.size ∧ q < w.heap.size := by
  subst hN
  have hj : j < ls.length := by rw [hl.len]; exact (List.getElem?_eq_some_iff.1 hy).1
  have hq : ls[j]? = some ls[j] := List.getElem?_eq_getElem hj
  have he := hl.each j _ y hq hy
  obtain ⟨bd, hr, _⟩ := he.row
  have ho := he.own
  have hg : g < w.heap.size := own_lt hl.own rfl
  rcases own_cases ho with ⟨hv, h0, hks⟩ | ⟨g', cap, cur, hv, _⟩
  · rw [hv] at hr ho
    have h0' : y.ks.length = 0 := h0
    exact ⟨ls[j].1, none, 0, hl.ptr j _ hq, hr.cell 0, by rw [h0']; exact hr.cell 2, by rw [h0'] at ho ⊢; exact ho, hg, hr.lt⟩
  · rw [hv] at hr ho
    exact ⟨ls[j].1, some ⟨g', 0, none⟩, cap, hl.ptr j _ hq, hr.cell 0, hr.cell 2, ho, hg, hr.lt⟩

set_option maxHeartbeats 4000000 in
set_option maxRecDepth 100000 in
/-- How many keys there are. -/
theorem len_any (w : World) (p : Nat) (sv : Value) (ls : List (Nat × Value)) (s : St) (hl : LvsAt w p sv ls s) (ho : Ok s) (hn : s.l.length < 4096) :
    Calls Tryd.prog 31 #[.pointer (some ⟨p, 0, none⟩)] w fun e w' => e = .returned (.int .i64 ((content s.l).length : Nat)) ∧ w = w' := by
  obtain ⟨g, c, rfl, hlen, h0, hc, hm⟩ := hl.slice ho.inv
  obtain ⟨N, hN⟩ : ∃ N, ls.length = N := ⟨_, rfl⟩
  rw [hN] at hl hlen h0 hc
  have c0 := hl.row.cell 1
  have hC : ∀ j, j < N → ∃ q a cap, ∃ y : Leaf, w.cell? ⟨g, j, none⟩ = some (.pointer (some ⟨q, 0, none⟩)) ∧ w.cell? ⟨q, 2, none⟩ = some (.slice a y.ks.length cap) ∧ s.l[j]? = some y := fun j hj => by
    obtain ⟨y, hy⟩ : ∃ y, s.l[j]? = some y := ⟨_, List.getElem?_eq_getElem (by omega)⟩
    obtain ⟨q, a, cap, h1, _, h2, _⟩ := hl.at' hN.symm j y hy
    exact ⟨q, a, cap, y, h1, h2, hy⟩
  have HC := Lib.hid hC
  have HL := Lib.hid hlen
  have hb : ∀ j, (content (s.l.take j)).length ≤ 262144 := fun j => by
    have h1 : (content (s.l.take j)).length ≤ 64 * (s.l.take j).length := content_few (fun y hy => Nat.le_trans (ho.few y (List.mem_of_mem_take hy)) ho.f64)
    have h2 : (s.l.take j).length ≤ s.l.length := by rw [List.length_take]; omega
    omega
  have HB := Lib.hid hb
  obtain ⟨T, hT⟩ : ∃ T, content s.l = T := ⟨_, rfl⟩
  have HT := Lib.hid (show content (s.l.take N) = T by rw [hlen, List.take_length]; exact hT)
  rw [hT]
  have n4 : N < 4096 := by omega
  clear hC hb hlen hN hl hT hm hc ho
  go_enter Tryd.func31, Tryd.ntmps31
  go_wp2
  go_loop [3, 13] (fun n i => ∃ j : Nat, j ≤ N ∧ i = .int .i64 j ∧ n = .int .i64 ((content (s.l.take j)).length : Nat)) (fun _ i => N - (intOf i).toNat)
  case atStart => exact ⟨0, Nat.zero_le _, rfl, by simp [content]⟩
  case round =>
    obtain ⟨j, hj, rfl, rfl⟩ := hrel
    by_cases hlt : j < N
    · obtain ⟨q, a, cap, y, e0, e1, hy⟩ := HC.out j hlt
      have b0 := HB.out j
      have b1 := HB.out (j + 1)
      have HS := Lib.hid (content_take hy)
      rw [content_take hy, List.length_append] at b1
      clear hy
      go_wp2
      go_round
      case rel => exact ⟨j + 1, by omega, by go_num, by rw [HS.out, List.length_append]; go_num⟩
      case measure => simp [intOf]; omega
    · obtain rfl : j = N := by omega
      go_wp2
      go_ret
      exact ⟨ret_int (by rw [HT.out]), rfl⟩

end Go.Proofs.YtecmppmkidefmaaDoor
