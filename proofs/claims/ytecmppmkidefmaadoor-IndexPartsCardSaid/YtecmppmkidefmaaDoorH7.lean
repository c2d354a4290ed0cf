/-
  The walk over a key more where its leaf has room.
-/
import Derived.Test.YtecmppmkidefmaaDoorH6
namespace Go.Proofs.YtecmppmkidefmaaDoor
open Go.RowKit LeafW

theorem row_new_at {w : World} {n : Nat} (h : w.heap.size = n) (cs : Array Value) (T : TypeId) : Row5 (w.alloc (.cells cs T)) n T cs := by subst h; exact Row5.new w T cs

theorem insK_at (w : World) (v : Value) (ks : List ByteArray) (k : ByteArray) (h : w.ownsRow 0 9 1 v ks.length (ks.map .string)) (P : Nat) (hP : pos ks k = P) (hbig : ks.length < 4096)
    (m : Nat) (hm : (insK ks k).length = m) (vb : Nat) (hx : Row5 w vb 9 #[.string k]) (hvb : v.ownBlock ≠ some vb) :
    Calls Tryd.prog 40 #[v, .int .i64 P, .slice (some ⟨vb, 0, none⟩) 1 1] w fun e w' => ∃ b c, e = .returned (.slice (some ⟨b, 0, none⟩) m c) ∧
      w'.ownsRow 0 9 1 (.slice (some ⟨b, 0, none⟩) m c) m ((insK ks k).map .string) ∧ (v.ownBlock = some b ∨ w.heap.size ≤ b) ∧ Keep v.ownBlock.toList w w' := by
  have hp := pos_le ks k
  subst hP
  rw [length_insK] at hm
  subst hm
  refine (insS_any w v (ks.map .string) (by simpa using h) (fun u hu => by obtain ⟨x, _, rfl⟩ := List.mem_map.1 hu; rfl) (pos ks k) (by simpa using hp) (by simp; omega) vb k hx hvb).mono ?_
  rintro e w' ⟨v', rfl, hput⟩
  obtain ⟨b, hb, hor⟩ := hput.blk
  have ho := hput.own
  rcases own_cases ho with ⟨rfl, _⟩ | ⟨g, cap, cur, rfl, _⟩
  · cases hb
  · obtain rfl : g = b := by simpa [Value.ownBlock] using hb
    refine ⟨g, cap, by simp, ?_, hor, hput.keep⟩
    have e : (insK ks k).map Value.string = (ks.map Value.string).take (pos ks k) ++ Value.string k :: (ks.map Value.string).drop (pos ks k) := by
      unfold insK; simp
    rw [e]
    simpa using ho

section
variable {w : World} {p g N c q : Nat} {v : Value} {la lb : List (Nat × Value)} {fan nx : Nat} {pre post : List Leaf} {y : Leaf} {k : ByteArray}

variable {w0 w1 w2 : World} {F : List Nat} {mv : Array Value}
theorem Mid.row (h : Mid w0 w F mv p g N c q v la lb fan nx pre post y) {bd : ByteArray} (hq : Row5 w q 70 #[.int .i64 y.n, .string bd, v]) (hk1 : Keep v.ownBlock.toList w w1) : Row5 w1 q 70 #[.int .i64 y.n, .string bd, v] :=
  hk1.row hq (fun c => h.here.qv (by simpa using c))
theorem Mid.keys2 (h : Mid w0 w F mv p g N c q v la lb fan nx pre post y) {bd : ByteArray} {v' : Value} {ks : List ByteArray} (hbd : (la.length == 0) = false → bd = y.b)
    (hk1 : Keep v.ownBlock.toList w w1) (ho : w1.ownsRow 0 9 1 v' ks.length (ks.map .string)) (hv : ∀ b, v'.ownBlock = some b → v.ownBlock = some b ∨ w.heap.size ≤ b)
    (hk2 : Keep [q] w1 w2) (hr : Row5 w2 q 70 #[.int .i64 y.n, .string bd, v']) (hks : ks.length < 4096) : Mid w0 w2 F mv p g N c q v' la lb fan nx pre post { y with ks := ks } := by
  have hqlt : q < w.heap.size := by obtain ⟨bd', hr', _⟩ := h.here.qrow; exact hr'.lt
  refine h.keys (G := q :: v.ownBlock.toList) ((hk1.mono (fun i hi => List.mem_cons_of_mem _ hi)).trans hk2 (fun i hi => .inl (by rw [List.mem_singleton.1 hi]; simp))) (fun b hb => ?_) ⟨bd, hr, hbd⟩
    (hk2.own ho (fun b hb e => ?_)) hks hv
  · rcases List.mem_cons.1 hb with e | e
    · exact .inl e
    · exact .inr (.inl (by simpa using e))
  · have e' : b = q := List.mem_singleton.1 e
    rcases hv b hb with k1 | k1
    · exact h.here.qv (by rw [← e']; exact k1)
    · omega

/-- What a change of leaves leaves. -/
def Changed (w : World) (F : List Nat) (p : Nat) (s : St) (w' : World) : Prop := ∃ sv' ls', LvsAt w' p sv' ls' s ∧ (∀ b ∈ foot p sv' ls', b ∈ F ∨ w.heap.size ≤ b) ∧ Keep F w w'

set_option maxHeartbeats 4000000 in
set_option maxRecDepth 100000 in
theorem insert_room (h : Found w p g N c q v la lb fan nx pre post y k) (hk : k.size ≤ 1024) (hf : k ∉ y.ks) (hroom : (insK y.ks k).length ≤ fan) :
    Calls Tryd.prog 24 #[.pointer (some ⟨p, 0, none⟩), .string k] w fun e w' => e = .returned (ansV ⟨y.n, 0, 0, 0⟩) ∧
      Changed w (foot p (.slice (some ⟨g, 0, none⟩) N c) (la ++ (q, v) :: lb)) p ⟨fan, nx, pre ++ { y with ks := insK y.ks k } :: post⟩ w' := by
  obtain ⟨F, hFe⟩ : ∃ F, foot p (.slice (some ⟨g, 0, none⟩) N c) (la ++ (q, v) :: lb) = F := ⟨_, rfl⟩
  have hm := Mid.start h.here #[.int .i64 0, .int .i64 0]
  rw [hFe] at hm ⊢
  have HI := Lib.hid h
  have HL := Lib.hid hm
  have hfr := h.fresh ((Below.refl _ _).alloc (Nat.le_refl _) (.cells #[.int .i64 0, .int .i64 0] 37))
  have HA := Lib.hid hfr
  have HF := Lib.hid (decide_eq_false hf)
  have p1 := HL.out.here.p1; have gi := HL.out.here.gi; have q2 := HL.out.here.q2
  have i0 : (0 : Int) ≤ (pre.length : Int) := by omega
  have i1 : (pre.length : Int) < (N : Int) := by have := h.here.lt; omega
  obtain ⟨P, hP⟩ : ∃ P, pos y.ks k = P := ⟨_, rfl⟩
  have HP := Lib.hid hP
  obtain ⟨m, hmm⟩ : ∃ m, (insK y.ks k).length = m := ⟨_, rfl⟩
  rw [hmm] at hroom
  have r1 : (m : Int) ≤ (fan : Int) := by omega
  have r0 : (0 : Int) ≤ (m : Int) := by omega
  obtain ⟨bd, hq, hbd⟩ := hm.here.qrow
  have HQ := Lib.hid hq
  have HD := Lib.hid hbd
  have HS := Lib.hid hmm
  clear hmm hf h hm hfr hFe hP hroom hq hbd
  go_enter Tryd.func24, Tryd.ntmps24
  go_wp2_with (first | (go_at_call 36; refine (at_at _ _ _ _ _ HL.out.here.hl HA.out.inv _ _ HA.out.at').mono ?_; rintro e w1 ⟨rfl, rfl⟩) | (go_at_call 37; refine (search_at _ _ _ HL.out.here.own HA.out.srt (by have := HL.out.here.ks; omega) _ _ _ HP.out HF.out).mono ?_; rintro e w1 ⟨rfl, n0, rfl⟩) | (go_at_call 40; refine (insK_at _ _ _ _ ((HL.out.drewN n0).alloc _).here.own _ HP.out HL.out.here.ks _ HS.out _ (row_new_at (by show (w.heap.push _).size = _; rw [Array.size_push]) _ _) (fun e => by have := own_lt HL.out.here.own e; simp at this)).mono ?_; rintro e w1 ⟨b, c', rfl, ho, hor, hkeep⟩; have HO := Lib.hid ho; have HR := Lib.hid hor; have HK := Lib.hid hkeep; clear ho hor hkeep) | (refine wpList_cell_row rfl 68 (.tmp 53) (.tmp 51) rfl q 2 (.slice (some ⟨b, 0, none⟩) m c') rfl rfl rfl 70 #[.int .i64 y.n, .string bd, v] #[.int .i64 y.n, .string bd, .slice (some ⟨b, 0, none⟩) m c'] (((HL.out.drewN n0).alloc _).row ((HQ.out.drewN n0).alloc _) HK.out) rfl rfl info68 ?_; intro W2 hr0 hk0; have HL2 := Lib.hid (((HL.out.drewN n0).alloc _).keys2 (ks := insK y.ks k) HD.out HK.out (by rw [HS.out]; exact HO.out) (fun b' hb' => by cases hb'; exact HR.out) hk0 hr0 (by have := length_insK y.ks k; have := HA.out.few; have := HA.out.fan64; omega)); clear hr0 hk0; have q2' := HL2.out.here.q2; have p0' := HL2.out.here.p0))
  go_quiet (fail)
  have q0' := HL2.out.here.q0
  go_wp2_with (refine wpList_store_keep rfl 37 (.tmp 5) (.tmp 68) rfl w.heap.size #[.int .i64 0, .int .i64 0] rfl rfl 37 _ (HL2.out.drewN nq).mv info37 rfl (all2 rfl rfl) ?_; intro W3 hr0 hk0; have HL3 := Lib.hid ((HL2.out.drewN nq).told hk0 hr0); clear hr0 hk0)
  exact bodyPost_ret (results_mid (p := 5) (u := 4) (v := 6) rfl _ W3 w.heap.size 37 _ _ rfl HL3.out.mv Tryd.underlying37 rfl info37) rfl ⟨rfl, HL3.out.finish⟩

end
end Go.Proofs.YtecmppmkidefmaaDoor
