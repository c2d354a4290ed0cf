/-
  The walk over a key more where its leaf parts.
-/
import Derived.Test.YtecmppmkidefmaaDoorH7
namespace Go.Proofs.YtecmppmkidefmaaDoor
open Go.RowKit LeafW

section
variable {w0 w w1 w2 : World} {F : List Nat} {mv : Array Value} {p g N c q : Nat} {v : Value} {la lb : List (Nat × Value)} {fan nx : Nat} {pre post : List Leaf} {y : Leaf} {k : ByteArray}

/-- A new leaf beside the leaves. -/
structure MidZ (w0 w : World) (F : List Nat) (mv : Array Value) (p g N c q : Nat) (v : Value) (la lb : List (Nat × Value)) (fan nx : Nat) (pre post : List Leaf) (y : Leaf) (z : Nat) (vz : Value) (zl : Leaf) : Prop where
  mid : Mid w0 w F mv p g N c q v la lb fan nx pre post y
  leaf : LeafAt w z vz false zl
  free : ∀ b, (b = z ∨ vz.ownBlock = some b) → b ∉ foot p (.slice (some ⟨g, 0, none⟩) N c) (la ++ (q, v) :: lb) ∧ w0.heap.size < b
  zv : vz.ownBlock ≠ some z
variable {z : Nat} {vz : Value} {zl : Leaf}
theorem MidZ.lt (h : MidZ w0 w F mv p g N c q v la lb fan nx pre post y z vz zl) : ∀ b, (b = z ∨ vz.ownBlock = some b) → b < w.heap.size := by
  rintro b (rfl | hb)
  · obtain ⟨bd, hr, _⟩ := h.leaf.row; exact hr.lt
  · exact own_lt h.leaf.own hb
theorem MidZ.zrow (h : MidZ w0 w F mv p g N c q v la lb fan nx pre post y z vz zl) : Row5 w z 70 #[.int .i64 zl.n, .string zl.b, vz] := by
  obtain ⟨bd, hr, hb⟩ := h.leaf.row
  rw [hb rfl] at hr; exact hr
theorem MidZ.z0 (h : MidZ w0 w F mv p g N c q v la lb fan nx pre post y z vz zl) : w.cell? ⟨z, 0, none⟩ = some (.int .i64 zl.n) := h.zrow.cell 0
theorem MidZ.leafKeep {G : List Nat} (h : MidZ w0 w F mv p g N c q v la lb fan nx pre post y z vz zl) (hk : Keep G w w1) (hG : ∀ b, (b = z ∨ vz.ownBlock = some b) → b ∉ G) : LeafAt w1 z vz false zl :=
  h.leaf.keep hk (hG z (.inl rfl)) (fun b hb => hG b (.inr hb))
theorem MidZ.call (h : MidZ w0 w F mv p g N c q v la lb fan nx pre post y z vz zl) (hb : Below w.heap.size w w1) : MidZ w0 w1 F mv p g N c q v la lb fan nx pre post y z vz zl :=
  ⟨h.mid.call hb, h.leafKeep (Keep.of_below hb []) (fun _ _ c => by cases c), h.free, h.zv⟩
theorem MidZ.keys2 (h : MidZ w0 w F mv p g N c q v la lb fan nx pre post y z vz zl) {bd : ByteArray} {v' : Value} {ks : List ByteArray} (hbd : (la.length == 0) = false → bd = y.b)
    (hb : Below w.heap.size w w1) (ho : w1.ownsRow 0 9 1 v' ks.length (ks.map .string)) (hv : ∀ b, v'.ownBlock = some b → w.heap.size ≤ b)
    (hk2 : Keep [q] w1 w2) (hr : Row5 w2 q 70 #[.int .i64 y.n, .string bd, v']) (hks : ks.length < 4096) : MidZ w0 w2 F mv p g N c q v' la lb fan nx pre post { y with ks := ks } z vz zl := by
  refine ⟨h.mid.keys2 hbd (Keep.of_below hb _) ho (fun b e => .inr (hv b e)) hk2 hr hks, ?_, fun b hbz => ⟨fun c => ?_, (h.free b hbz).2⟩, h.zv⟩
  · refine (h.leafKeep (Keep.of_below hb []) (fun _ _ c => by cases c)).keep hk2 (fun e => (h.free z (.inl rfl)).1 ?_) (fun b hbz e => (h.free b (.inr hbz)).1 ?_)
    · rw [List.mem_singleton.1 e]; exact h.mid.inq
    · rw [List.mem_singleton.1 e]; exact h.mid.inq
  · rcases mem_foot.1 c with e | e | e
    · exact (h.free b hbz).1 (mem_foot.2 (.inl e))
    · exact (h.free b hbz).1 (mem_foot.2 (.inr (.inl e)))
    · rcases mem_footL_mid.1 e with e | e | e
      · exact (h.free b hbz).1 (by rw [e]; exact h.mid.inq)
      · have := hv b e; have := h.lt b hbz; omega
      · exact (h.free b hbz).1 (mem_foot.2 (.inr (.inr (mem_footL_mid.2 (.inr (.inr e))))))
theorem MidZ.next {nx' : Nat} (h : MidZ w0 w F mv p g N c q v la lb fan nx pre post y z vz zl) (hk : Keep [p] w w1) (hr : Row5 w1 p 73 #[.int .i64 fan, .slice (some ⟨g, 0, none⟩) N c, .int .i64 nx']) :
    MidZ w0 w1 F mv p g N c q v la lb fan nx' pre post y z vz zl :=
  ⟨h.mid.next hk hr, h.leafKeep hk (fun b hb e => (h.free b hb).1 (by rw [List.mem_singleton.1 e]; exact mem_foot.2 (.inl rfl))), h.free, h.zv⟩
theorem MidZ.told {mv' : Array Value} (h : MidZ w0 w F mv p g N c q v la lb fan nx pre post y z vz zl) (hk : Keep [w0.heap.size] w w1) (hr : Row5 w1 w0.heap.size 37 mv') : MidZ w0 w1 F mv' p g N c q v la lb fan nx pre post y z vz zl :=
  ⟨h.mid.told hk hr, h.leafKeep hk (fun b hb e => by have := (h.free b hb).2; have := List.mem_singleton.1 e; omega), h.free, h.zv⟩

/-- What stands when the new leaf is in. -/
structure Fin (w0 w : World) (F : List Nat) (mv : Array Value) (p : Nat) (sv : Value) (ls : List (Nat × Value)) (s : St) : Prop where
  lv : LvsAt w p sv ls s
  mv : Row5 w w0.heap.size 37 mv
  sub : ∀ b ∈ foot p sv ls, b ∈ F ∨ w0.heap.size < b
  keep : Keep F w0 w
  old : ∀ b ∈ F, b < w0.heap.size
variable {sv : Value} {ls : List (Nat × Value)} {s : St}
theorem Fin.call (h : Fin w0 w F mv p sv ls s) (hb : Below w.heap.size w w1) : Fin w0 w1 F mv p sv ls s :=
  ⟨h.lv.fresh hb, h.mv.below hb h.mv.lt, h.sub, h.keep.trans (Keep.of_below hb []) (fun _ c => by cases c), h.old⟩
theorem Fin.drewN (h : Fin w0 w F mv p sv ls s) (n : Nat) : Fin w0 (w.drewN n) F mv p sv ls s := h.call (below_drewN (Below.refl _ _) n)
theorem Fin.told {mv' : Array Value} (h : Fin w0 w F mv p sv ls s) (hk : Keep [w0.heap.size] w w1) (hr : Row5 w1 w0.heap.size 37 mv') : Fin w0 w1 F mv' p sv ls s := by
  have hn : ∀ b ∈ foot p sv ls, b ∉ [w0.heap.size] := fun b hb c => by
    have c' := List.mem_singleton.1 c
    rcases h.sub b hb with k | k
    · have := h.old b k; omega
    · omega
  have := h.mv.lt
  exact ⟨h.lv.keep hk hn, hr, h.sub, h.keep.trans hk (fun b hb => .inr (by rw [List.mem_singleton.1 hb]; exact Nat.le_refl _)), h.old⟩
theorem Fin.finish (h : Fin w0 w F mv p sv ls s) : Changed w0 F p s w := ⟨sv, ls, h.lv, fun b hb => (h.sub b hb).imp id Nat.le_of_lt, h.keep⟩

/-- The new leaf put behind the one that has parted. -/
theorem MidZ.more {sv' : Value} (h : MidZ w0 w F mv p g N c q v la lb fan nx pre post y z vz zl) (hk1 : Keep [g] w w1) (hk2 : Keep [p] w1 w2)
    (ho : w1.ownsRow 0 67 1 sv' ((la ++ (q, v) :: lb).length + 1) (((la ++ (q, v) :: lb).map ptrV).take (la.length + 1) ++ ptrV (z, vz) :: ((la ++ (q, v) :: lb).map ptrV).drop (la.length + 1)))
    (hsv : ∀ b, sv'.ownBlock = some b → b = g ∨ w.heap.size ≤ b) (hr : Row5 w2 p 73 #[.int .i64 fan, sv', .int .i64 nx]) :
    Fin w0 w2 F mv p sv' (la ++ (q, v) :: (z, vz) :: lb) ⟨fan, nx, pre ++ y :: zl :: post⟩ := by
  have hla := h.mid.here.la
  have hp : p ∈ foot p (.slice (some ⟨g, 0, none⟩) N c) (la ++ (q, v) :: lb) := mem_foot.2 (.inl rfl)
  have hg : g ∈ foot p (.slice (some ⟨g, 0, none⟩) N c) (la ++ (q, v) :: lb) := mem_foot.2 (.inr (.inl rfl))
  have e1 : la ++ (q, v) :: lb = (la ++ [(q, v)]) ++ lb := by simp
  have e2 : la ++ (q, v) :: (z, vz) :: lb = (la ++ [(q, v)]) ++ (z, vz) :: lb := by simp
  have e3 : pre ++ y :: post = (pre ++ [y]) ++ post := by simp
  have e4 : pre ++ y :: zl :: post = (pre ++ [y]) ++ zl :: post := by simp
  have hm : ((la ++ (q, v) :: lb).map ptrV).take (la.length + 1) ++ ptrV (z, vz) :: ((la ++ (q, v) :: lb).map ptrV).drop (la.length + 1) = ((la ++ [(q, v)]) ++ (z, vz) :: lb).map ptrV := by
    rw [e1]
    have hl : (la ++ [(q, v)]).length = la.length + 1 := by simp
    rw [← List.map_take, ← List.map_drop, ← hl, List.take_left', List.drop_left'] <;> simp
  have hkk : Keep (g :: [p]) w w2 := (hk1.mono (fun i hi => by rw [List.mem_singleton.1 hi]; simp)).trans hk2 (fun i hi => .inl (List.mem_cons_of_mem _ hi))
  have hlv := h.mid.here.hl
  rw [e1, e3] at hlv
  have hpg : sv'.ownBlock ≠ some p := fun e => by
    rcases hsv p e with k | k
    · exact (foot_nd.1 h.mid.here.hl.nd).2.1 (by rw [← k]; rfl)
    · have := h.mid.here.hl.row.lt; omega
  have hlv' := hlv.more (by simp [hla]) (by simp) h.leaf (fun c => (h.free z (.inl rfl)).1 (by rw [e1]; exact c)) (fun b hb => ⟨fun c => (h.free b (.inr hb)).1 (by rw [e1]; exact c), fun e => h.zv (by rw [← e]; exact hb)⟩)
    hkk (fun b hb => by
      rcases List.mem_cons.1 hb with e | e
      · exact .inr (.inl (by rw [e]; rfl))
      · exact .inl (List.mem_singleton.1 e)) hr
    (hk2.own (by rw [hm, e1] at ho; simpa [Nat.add_assoc] using ho) (fun b hb e => hpg (by rw [List.mem_singleton.1 e] at hb; exact hb)))
    (fun b hb => (hsv b hb).imp (fun e => by rw [e]; rfl) id)
  rw [← e2, ← e4] at hlv'
  refine ⟨hlv', hkk.row h.mid.mv (fun c => ?_), fun b hb => ?_, h.mid.keep.trans hkk (fun b hb => ?_), h.mid.old⟩
  · rcases List.mem_cons.1 c with e | e
    · exact h.mid.ne g hg e.symm
    · exact h.mid.ne p hp (List.mem_singleton.1 e).symm
  · have hs := h.mid.size
    rcases mem_foot.1 hb with e | e | e
    · exact h.mid.sub b (by rw [e]; exact hp)
    · rcases hsv b e with k | k
      · exact h.mid.sub b (by rw [k]; exact hg)
      · exact .inr (by omega)
    · rw [e2] at e
      rcases mem_footL_mid.1 e with k | k | k
      · exact .inr (h.free b (.inl k)).2
      · exact .inr (h.free b (.inr k)).2
      · exact h.mid.sub b (mem_foot.2 (.inr (.inr (by rw [e1]; exact k))))
  · have hs := h.mid.size
    rcases List.mem_cons.1 hb with e | e
    · rcases h.mid.sub g hg with k | k
      · exact .inl (by rw [e]; exact k)
      · exact .inr (by omega)
    · rcases h.mid.sub p hp with k | k
      · exact .inl (by rw [List.mem_singleton.1 e]; exact k)
      · exact .inr (by rw [List.mem_singleton.1 e]; omega)

theorem Fin.head {rest : List (Nat × Value)} (h : Fin w0 w F mv p sv (la ++ (q, v) :: rest) ⟨fan, nx, pre ++ y :: post⟩) (hla : la.length = pre.length) : w.cell? ⟨q, 0, none⟩ = some (.int .i64 y.n) := by
  obtain ⟨bd, hr, _⟩ := (h.lv.here hla).row; exact hr.cell 0
theorem Fin.next {rest : List (Nat × Value)} (h : Fin w0 w F mv p sv (la ++ (q, v) :: (z, vz) :: rest) ⟨fan, nx, pre ++ y :: zl :: post⟩) (hla : la.length = pre.length) : w.cell? ⟨z, 0, none⟩ = some (.int .i64 zl.n) := by
  obtain ⟨bd, hr, _⟩ := (h.lv.each (la.length + 1) (z, vz) zl (by rw [List.getElem?_append_right (by omega)]; simp) (by rw [hla, List.getElem?_append_right (by omega)]; simp)).row; exact hr.cell 0

theorem insP_at (w : World) (g N c : Nat) (ls : List (Nat × Value)) (h : w.ownsRow 0 67 1 (.slice (some ⟨g, 0, none⟩) N c) ls.length (ls.map ptrV)) (hN : N = ls.length) (j : Nat) (hj : j + 1 ≤ N) (hbig : N < 4096)
    (vb z : Nat) (hx : Row5 w vb 67 #[.pointer (some ⟨z, 0, none⟩)]) (hvb : vb ≠ g) :
    Calls Tryd.prog 42 #[.slice (some ⟨g, 0, none⟩) N c, .int .i64 ((j : Int) + 1), .slice (some ⟨vb, 0, none⟩) 1 1] w fun e w' => ∃ b c', e = .returned (.slice (some ⟨b, 0, none⟩) (N + 1) c') ∧
      w'.ownsRow 0 67 1 (.slice (some ⟨b, 0, none⟩) (N + 1) c') (ls.length + 1) ((ls.map ptrV).take (j + 1) ++ ptrV (z, undef) :: (ls.map ptrV).drop (j + 1)) ∧ (b = g ∨ w.heap.size ≤ b) ∧ Keep [g] w w' := by
  subst hN
  have hl : (ls.map ptrV).length = ls.length := by simp
  have := insP_any w g c (ls.map ptrV) (by rw [hl]; exact h) (fun u hu => by obtain ⟨x, _, rfl⟩ := List.mem_map.1 hu; rfl) (j + 1) (by omega) (by rw [hl]; omega) vb (.pointer (some ⟨z, 0, none⟩)) rfl hx hvb
  rw [hl] at this
  refine this.mono ?_
  rintro e w' ⟨v', rfl, hput⟩
  obtain ⟨b, hb, hor⟩ := hput.blk
  have ho := hput.own
  rw [hl] at ho
  rcases own_cases ho with ⟨rfl, _⟩ | ⟨g', cap, cur, rfl, _⟩
  · cases hb
  · obtain rfl : g' = b := by simpa [Value.ownBlock] using hb
    exact ⟨g', cap, rfl, ho, hor.imp (fun e => by simpa [Value.ownBlock] using e.symm) id, hput.keep⟩

theorem h14_below {W w' w1 : World} {b C : Nat} {kC : ByteArray} (h : (w'.cell? ⟨p, 2, none⟩ = some (.int .i64 nx) ∧ w'.cell? ⟨q, 2, none⟩ = some v ∧ w'.cell? ⟨b, C, none⟩ = some (.string kC) ∧ Hid (Below W.heap.size W w'))) (hb : Below w'.heap.size w' w1) :
    (w1.cell? ⟨p, 2, none⟩ = some (.int .i64 nx) ∧ w1.cell? ⟨q, 2, none⟩ = some v ∧ w1.cell? ⟨b, C, none⟩ = some (.string kC) ∧ Hid (Below W.heap.size W w1)) := by
  obtain ⟨h1, h2, h3, h4⟩ := h
  have hs := h4.out.size
  exact ⟨(hb.cell (p := ⟨p, 2, none⟩) (World.block_lt_of_cell? _ _ h1)).trans h1, (hb.cell (p := ⟨q, 2, none⟩) (World.block_lt_of_cell? _ _ h2)).trans h2, (hb.cell (p := ⟨b, C, none⟩) (World.block_lt_of_cell? _ _ h3)).trans h3, Lib.hid (h4.out.trans (hb.mono hs))⟩
set_option maxHeartbeats 8000000 in
set_option maxRecDepth 100000 in
theorem insert_split (h : Found w p g N c q v la lb fan nx pre post y k) (hk : k.size ≤ 1024) (hf : k ∉ y.ks) (hroom : fan < (insK y.ks k).length) (hf2 : 2 ≤ fan) (hnx : nx < 4096) (C : Nat) (hC : ((insK y.ks k).length + 1) / 2 = C) (P : Nat) (hP : pos y.ks k = P) (kC : ByteArray) (hkC : (insK y.ks k)[C]? = some kC) :
    Calls Tryd.prog 24 #[.pointer (some ⟨p, 0, none⟩), .string k] w fun e w' => e = .returned (ansV ⟨if P < C then y.n else nx, y.n, nx, 0⟩) ∧
      Changed w (foot p (.slice (some ⟨g, 0, none⟩) N c) (la ++ (q, v) :: lb)) p ⟨fan, nx + 1, pre ++ { y with ks := (insK y.ks k).take C } :: ⟨nx, kC, (insK y.ks k).drop C⟩ :: post⟩ w' := by
  obtain ⟨F, hFe⟩ : ∃ F, foot p (.slice (some ⟨g, 0, none⟩) N c) (la ++ (q, v) :: lb) = F := ⟨_, rfl⟩
  have hm := Mid.start h.here #[.int .i64 0, .int .i64 0]
  rw [hFe] at hm ⊢
  have HL := Lib.hid hm
  have hfr := h.fresh ((Below.refl _ _).alloc (Nat.le_refl _) (.cells #[.int .i64 0, .int .i64 0] 37))
  have HA := Lib.hid hfr
  have HF := Lib.hid (decide_eq_false hf)
  have p1 := HL.out.here.p1; have gi := HL.out.here.gi; have q2 := HL.out.here.q2
  have i0 : (0 : Int) ≤ (pre.length : Int) := by omega
  have i1 : (pre.length : Int) < (N : Int) := by have := h.here.lt; omega
  have HP := Lib.hid hP
  obtain ⟨m, hmm⟩ : ∃ m, (insK y.ks k).length = m := ⟨_, rfl⟩
  rw [hmm] at hroom hC
  have hfew := h.few
  have hf64 := h.fan64
  have hlen := length_insK y.ks k
  have r1 : (fan : Int) < (m : Int) := by omega
  have r0 : (0 : Int) ≤ (m : Int) := by omega
  have m64 : m ≤ 65 := by omega
  have c0 : (0 : Int) ≤ (C : Int) := by omega
  have c1 : (C : Int) < (m : Int) := by omega
  have HCM := Lib.hid (show C < m ∧ ((m : Int) + 1) / 2 = (C : Int) ∧ 2 ≤ C by omega)
  obtain ⟨bd, hq, hbd⟩ := hm.here.qrow
  have HQ := Lib.hid hq
  have HD := Lib.hid hbd
  have HS := Lib.hid hmm
  have HKC := Lib.hid hkC
  clear hmm hf h hm hfr hFe hP hroom hq hbd hkC hfew hf64 hlen hC hf2
  go_enter Tryd.func24, Tryd.ntmps24
  go_wp2_with (first | (go_at_call 36; refine (at_at _ _ _ _ _ HL.out.here.hl HA.out.inv _ _ HA.out.at').mono ?_; rintro e w1 ⟨rfl, rfl⟩) | (go_at_call 37; refine (search_at _ _ _ HL.out.here.own HA.out.srt (by have := HL.out.here.ks; omega) _ _ _ HP.out HF.out).mono ?_; rintro e w1 ⟨rfl, n0, rfl⟩) | (go_at_call 40; refine (insK_at _ _ _ _ ((HL.out.drewN n0).alloc _).here.own _ HP.out HL.out.here.ks _ HS.out _ (row_new_at (by show (w.heap.push _).size = _; rw [Array.size_push]) _ _) (fun e => by have := own_lt HL.out.here.own e; simp at this)).mono ?_; rintro e w1 ⟨b, c', rfl, ho, hor, hkeep⟩; have HO := Lib.hid ho; have HR := Lib.hid hor; have HK := Lib.hid hkeep; clear ho hor hkeep) | (refine wpList_cell_row rfl 68 (.tmp 53) (.tmp 51) rfl q 2 (.slice (some ⟨b, 0, none⟩) m c') rfl rfl rfl 70 #[.int .i64 y.n, .string bd, v] #[.int .i64 y.n, .string bd, .slice (some ⟨b, 0, none⟩) m c'] (((HL.out.drewN n0).alloc _).row ((HQ.out.drewN n0).alloc _) HK.out) rfl rfl info68 ?_; intro W2 hr0 hk0; have HL2 := Lib.hid (((HL.out.drewN n0).alloc _).keys2 (ks := insK y.ks k) HD.out HK.out (by rw [HS.out]; exact HO.out) (fun b' hb' => by cases hb'; exact HR.out) hk0 hr0 (by rw [HS.out]; omega)); have HQ2 := Lib.hid hr0; clear hr0 hk0; have q2' := HL2.out.here.q2; have p0' := HL2.out.here.p0))
  go_quiet (fail)
  have HL3 := Lib.hid (HL2.out.drewN nq)
  have p2' := HL2.out.here.p2
  have kb : W2.cell? ⟨b, C, none⟩ = some (.string kC) := own_cell (by have := HL2.out.here.own; rw [HS.out] at this; exact this) C _ (by rw [List.getElem?_map, HKC.out]; rfl)
  have e1 : ((m : Int) + 1) / 2 = (C : Int) := HCM.out.2.1
  have hcc : m ≤ c' ∧ c' ≤ 9223372036854775807 := by
    rcases own_cases HL2.out.here.own with ⟨e, _⟩ | ⟨g', cap, cur, e, _, h1, h2, _⟩
    · cases e
    · cases e; unfold maxLen at h2; exact ⟨h1, by omega⟩
  have d1 : ¬ (c' = C) := by have := HCM.out.1; omega
  have d2 : C ≤ c' := by have := HCM.out.1; omega
  have d3 : C ≤ m := by have := HCM.out.1; omega
  have HPIECE := Lib.hid (show ∀ j u, ((insK y.ks k).drop C)[j]? = some u → (W2.drewN nq).cell? ⟨b, C + j, none⟩ = some (.string u) from fun j u hj =>
    own_cell (by have := HL2.out.here.own; rw [HS.out] at this; exact this) (C + j) _ (by rw [List.getElem?_drop] at hj; rw [List.getElem?_map, hj]; rfl))
  have HB0 := Lib.hid (Below.refl (W2.drewN nq).heap.size (W2.drewN nq))
  have HBL := Lib.hid (own_lt HL2.out.here.own (b := b) rfl)
  go_wp2
  rw [e1]
  clear e1
  go_region_held3 (fun w' => w'.cell? ⟨p, 2, none⟩ = some (.int .i64 nx) ∧ w'.cell? ⟨q, 2, none⟩ = some (.slice (some ⟨b, 0, none⟩) m c') ∧ w'.cell? ⟨b, C, none⟩ = some (.string kC) ∧ Hid (Below (W2.drewN nq).heap.size (W2.drewN nq) w')) (first | exact h14_below (w' := W2.drewN nq) ⟨p2', q2', kb, HB0⟩ (Below.refl _ _).drew | exact h14_below (by assumption) (Below.refl _ _).drew | exact h14_below (by assumption) ((Below.refl _ _).alloc (Nat.le_refl _) _) | exact h14_below (by assumption) hbel)
    (first | (go_at_call 41; refine (cloneS_any (W2.drewN (nq + 1)) b C (m - C) (c' - C) ((insK y.ks k).drop C) (by rw [List.length_drop, HS.out]) (by omega) (fun j u hj => HPIECE.out j u hj)).mono ?_; rintro e w1 ⟨b3, c3, rfl, hb3, ho3, hbel⟩))
  obtain ⟨W4, hW4⟩ : ∃ W4, W4 = w1.alloc (.cells #[.int .i64 nx, .string kC, .slice (some ⟨b3, 0, none⟩) (m - C) c3] 70) := ⟨_, rfl⟩
  have HZ : Hid (MidZ w W4 F #[.int .i64 0, .int .i64 0] p g N c q (.slice (some ⟨b, 0, none⟩) m c') la lb fan nx pre post { y with ks := insK y.ks k } w1.heap.size (.slice (some ⟨b3, 0, none⟩) (m - C) c3) ⟨nx, kC, (insK y.ks k).drop C⟩) := by
    have hs1 := hbel.size
    have hs2 := HL2.out.size
    have hlt := own_lt ho3 (b := b3) rfl
    have hb4 : W2.heap.size ≤ b3 := hb3
    have hs3 : W2.heap.size ≤ w1.heap.size := hs1
    refine Lib.hid ⟨?_, ⟨⟨kC, ?_, fun _ => rfl⟩, ?_⟩, fun b' hb' => ⟨fun hc => ?_, ?_⟩, fun e => ?_⟩
    · rw [hW4]; exact ((HL2.out.drewN (nq + 1)).call hbel).alloc _
    · rw [hW4]; exact Row5.new w1 _ _
    · rw [hW4, show ((insK y.ks k).drop C).length = m - C by rw [List.length_drop, HS.out]]; exact ho3.alloc _
    · have := HL2.out.here.hl.lt b' hc
      rcases hb' with e | e
      · omega
      · have e' : b3 = b' := by simpa [Value.ownBlock] using e
        omega
    · rcases hb' with e | e
      · omega
      · have e' : b3 = b' := by simpa [Value.ownBlock] using e
        omega
    · have e' : b3 = w1.heap.size := by simpa [Value.ownBlock] using e
      omega
  have HQ4 : Hid (Row5 W4 q 70 #[.int .i64 y.n, .string bd, .slice (some ⟨b, 0, none⟩) m c']) := by
    rw [hW4]
    exact Lib.hid (((HQ2.out.drewN (nq + 1)).below hbel HQ2.out.lt).alloc _)
  obtain ⟨z, hz⟩ : ∃ z, z = w1.heap.size := ⟨_, rfl⟩
  rw [← hz] at HZ
  rw [← hW4, ← hz]
  clear ho3 hbel hb3 hW4 hz q2' p0' p2' kb HPIECE HB0 HBL
  have q2' := HZ.out.mid.here.q2
  have p1' := HZ.out.mid.here.p1
  have n0' : (0 : Int) ≤ (nx : Int) := by omega
  have n1' : (nx : Int) ≤ 4096 := by omega
  have N1 : (N : Int) < 4096 := by have := HL.out.here.n; omega
  have L1 : pre.length + 1 ≤ N := by omega
  go_wp2_with (first | (go_at_call 41; refine (cloneS_any W4 b 0 C c' ((insK y.ks k).take C) (by rw [List.length_take, HS.out]; omega) (by omega) (fun j u hj => by rw [Nat.zero_add]; exact own_cell (by have := HZ.out.mid.here.own; rw [HS.out] at this; exact this) j _ (by rw [List.getElem?_take] at hj; split at hj; (rw [List.getElem?_map, hj]; rfl); cases hj))).mono ?_; rintro e w5 ⟨b5, c5, rfl, hb5, ho5, hbel5⟩; have HO5 := Lib.hid ho5; have HB5 := Lib.hid hb5; have HE5 := Lib.hid hbel5; clear ho5 hb5 hbel5) | (refine wpList_cell_row rfl 68 (.tmp 105) (.tmp 103) rfl q 2 (.slice (some ⟨b5, 0, none⟩) C c5) rfl rfl rfl 70 #[.int .i64 y.n, .string bd, .slice (some ⟨b, 0, none⟩) m c'] #[.int .i64 y.n, .string bd, .slice (some ⟨b5, 0, none⟩) C c5] (HQ4.out.below HE5.out HQ4.out.lt) rfl rfl info68 ?_; intro W6 hr0 hk0; have HZ2 := Lib.hid (HZ.out.keys2 (ks := (insK y.ks k).take C) HD.out HE5.out (by rw [show ((insK y.ks k).take C).length = C by rw [List.length_take, HS.out]; omega]; exact HO5.out) (fun b' hb' => by cases hb'; exact HB5.out) hk0 hr0 (by rw [List.length_take, HS.out]; omega)); clear hr0 hk0 q2' p1'; have p2' := HZ2.out.mid.here.p2) | (refine wpList_cell_row rfl 3 (.tmp 112) (.tmp 110) rfl p 2 (.int .i64 ((nx : Int) + 1)) rfl rfl rfl 73 #[.int .i64 fan, .slice (some ⟨g, 0, none⟩) N c, .int .i64 nx] #[.int .i64 fan, .slice (some ⟨g, 0, none⟩) N c, .int .i64 ((nx : Int) + 1)] HZ2.out.mid.here.hl.row rfl rfl info3 ?_; intro W7 hr0 hk0; have HZ3 := Lib.hid (HZ2.out.next (nx' := nx + 1) hk0 hr0); clear hr0 hk0 p2'; have p1' := HZ3.out.mid.here.p1) | (go_at_call 42; refine (insP_at _ g N c _ ((HZ3.out.mid.alloc _).here.hl.own) HZ3.out.mid.here.len pre.length L1 HZ3.out.mid.here.n _ z (Row5.new _ _ _) (by have := own_lt HZ3.out.mid.here.hl.own (b := g) rfl; omega)).mono ?_; rintro e w8 ⟨b8, c8, rfl, ho8, hor8, hk8⟩; have HO8 := Lib.hid ho8; have HR8 := Lib.hid hor8; have HK8 := Lib.hid hk8; clear ho8 hor8 hk8) | (refine wpList_cell_row rfl 71 (.tmp 124) (.tmp 122) rfl p 1 (.slice (some ⟨b8, 0, none⟩) (N + 1) c8) rfl rfl rfl 73 #[.int .i64 fan, .slice (some ⟨g, 0, none⟩) N c, .int .i64 ((nx + 1 : Nat) : Int)] #[.int .i64 fan, .slice (some ⟨b8, 0, none⟩) (N + 1) c8, .int .i64 ((nx + 1 : Nat) : Int)] (HK8.out.row (HZ3.out.mid.alloc _).here.hl.row (fun e => (foot_nd.1 HZ3.out.mid.here.hl.nd).2.1 (by rw [← List.mem_singleton.1 e]; rfl))) rfl rfl info71 ?_; intro W9 hr0 hk0; have HF9 := Lib.hid ((HZ3.out.call ((Below.refl _ _).alloc (Nat.le_refl _) _)).more HK8.out hk0 (by have := HO8.out; rw [← HL.out.here.la] at this; exact this) (fun b' hb' => by cases hb'; exact HR8.out) hr0); clear hr0 hk0 p1'; have q0' := HF9.out.head HL.out.here.la; have z0' := HF9.out.next HL.out.here.la))
  go_still_tail 9, (by kernel_rfl)
  refine wpList_store_keep rfl 37 (.tmp 5) (.tmp 133) rfl w.heap.size #[.int .i64 y.n, .int .i64 nx] rfl rfl 37 _ (HF9.out.call (Below.refl _ _).drew).mv info37 rfl (all2 rfl rfl) ?_
  intro W10 hr0 hk0
  have HF10 := Lib.hid ((HF9.out.call (Below.refl _ _).drew).told hk0 hr0)
  clear hr0 hk0 q0' z0'
  have q0' := HF10.out.head HL.out.here.la
  have z0' := HF10.out.next HL.out.here.la
  have m0' : W10.cell? ⟨w.heap.size, 0, none⟩ = some (.int .i64 y.n) := HF10.out.mv.cell 0
  have m1' : W10.cell? ⟨w.heap.size, 1, none⟩ = some (.int .i64 nx) := HF10.out.mv.cell 1
  rcases Nat.lt_or_ge P C with hPC | hPC
  · have hPC' : (P : Int) < (C : Int) := by omega
    have HI := Lib.hid (if_pos hPC : (if P < C then y.n else (nx : Int)) = y.n)
    clear hPC
    go_wp2
    go_still_tail 6, (by kernel_rfl)
    refine wpList_store_keep rfl 37 (.tmp 5) (.tmp 141) rfl w.heap.size #[.int .i64 y.n, .int .i64 nx] rfl rfl 37 _ (HF10.out.call (Below.refl _ _).drew).mv info37 rfl (all2 rfl rfl) ?_
    intro W11 hr0 hk0
    have HF11 := Lib.hid ((HF10.out.call (Below.refl _ _).drew).told hk0 hr0)
    clear hr0 hk0
    go_wp2
    exact bodyPost_ret (results_mid (p := 5) (u := 4) (v := 6) rfl _ W11 w.heap.size 37 _ _ rfl HF11.out.mv Tryd.underlying37 rfl info37) rfl ⟨by first | rfl | (rw [HI.out]; rfl), HF11.out.finish⟩
  · have hPC' : ¬ ((P : Int) < (C : Int)) := by omega
    have HI := Lib.hid (if_neg (by omega) : (if P < C then y.n else (nx : Int)) = (nx : Int))
    clear hPC
    go_wp2
    go_still_tail 6, (by kernel_rfl)
    refine wpList_store_keep rfl 37 (.tmp 5) (.tmp 146) rfl w.heap.size #[.int .i64 y.n, .int .i64 nx] rfl rfl 37 _ (HF10.out.call (Below.refl _ _).drew).mv info37 rfl (all2 rfl rfl) ?_
    intro W11 hr0 hk0
    have HF11 := Lib.hid ((HF10.out.call (Below.refl _ _).drew).told hk0 hr0)
    clear hr0 hk0
    go_wp2
    exact bodyPost_ret (results_mid (p := 5) (u := 4) (v := 6) rfl _ W11 w.heap.size 37 _ _ rfl HF11.out.mv Tryd.underlying37 rfl info37) rfl ⟨by first | rfl | (rw [HI.out]; rfl), HF11.out.finish⟩

end
end Go.Proofs.YtecmppmkidefmaaDoor
