/-
  The walk over a key fewer.
-/
import Derived.Test.YtecmppmkidefmaaDoorH17
namespace Go.Proofs.YtecmppmkidefmaaDoor
open Go.RowKit LeafW

theorem delS_at (w : World) (g c : Nat) (ks : List ByteArray) (m : Nat) (hm : ks.length = m + 1) (h : w.ownsRow 0 9 1 (.slice (some ⟨g, 0, none⟩) (m + 1) c) ks.length (ks.map .string)) (k : ByteArray) (hs : Srt ks) (hk : k ∈ ks) (P : Nat) (hP : pos ks k = P) :
    Calls Tryd.prog 38 #[.slice (some ⟨g, 0, none⟩) (m + 1) c, .int .i64 P, .int .i64 ((P : Int) + 1)] w fun e w' =>
      e = .returned (.slice (some ⟨g, 0, none⟩) m c) ∧ w'.ownsRow 0 9 1 (.slice (some ⟨g, 0, none⟩) m c) m ((delK ks k).map .string) ∧ Keep [g] w w' := by
  obtain ⟨hp, _⟩ := pos_mem hs hk
  subst hP
  have := delS_any w g c ks (by rw [hm] at h ⊢; exact h) (pos ks k) hp
  rw [hm] at this
  exact this

theorem delP_at (w : World) (g N c : Nat) (la lb : List (Nat × Value)) (q : Nat) (v : Value) (hN : (la ++ (q, v) :: lb).length = N + 1) (h : w.ownsRow 0 67 1 (.slice (some ⟨g, 0, none⟩) (N + 1) c) (la ++ (q, v) :: lb).length ((la ++ (q, v) :: lb).map ptrV)) (i : Nat) (hi : la.length = i) :
    Calls Tryd.prog 39 #[.slice (some ⟨g, 0, none⟩) (N + 1) c, .int .i64 i, .int .i64 ((i : Int) + 1)] w fun e w' =>
      e = .returned (.slice (some ⟨g, 0, none⟩) N c) ∧ w'.ownsRow 0 67 1 (.slice (some ⟨g, 0, none⟩) N c) (la ++ lb).length ((la ++ lb).map ptrV) ∧ Keep [g] w w' := by
  subst hi
  have hmap : ∀ l : List (Nat × Value), l.map ptrV = (l.map (fun r => some (⟨r.1, 0, none⟩ : Addr))).map Value.pointer := fun l => by simp [ptrV]
  have hl : ((la ++ (q, v) :: lb).map (fun r => some (⟨r.1, 0, none⟩ : Addr))).length = N + 1 := by rw [List.length_map]; exact hN
  have := delP_any w g c ((la ++ (q, v) :: lb).map (fun r => some (⟨r.1, 0, none⟩ : Addr))) (by rw [hl, ← hmap]; rw [hN] at h; exact h) la.length (by rw [List.length_map]; simp)
  rw [hl] at this
  refine this.mono ?_
  rintro e w' ⟨rfl, ho, hk⟩
  refine ⟨rfl, ?_, hk⟩
  have e1 : (la ++ lb).length = N := by simp at hN ⊢; omega
  rw [e1, hmap]
  have e2 : ((la ++ (q, v) :: lb).map (fun r => some (⟨r.1, 0, none⟩ : Addr))).take la.length ++ ((la ++ (q, v) :: lb).map (fun r => some (⟨r.1, 0, none⟩ : Addr))).drop (la.length + 1) = (la ++ lb).map (fun r => some (⟨r.1, 0, none⟩ : Addr)) := by
    rw [← List.map_take, ← List.map_drop, ← List.map_append]
    congr 1
    rw [List.take_left', show (la ++ (q, v) :: lb) = (la ++ [(q, v)]) ++ lb by simp, List.drop_left'] <;> simp
  rw [e2] at ho
  exact ho

section
variable {w0 w w1 w2 : World} {F : List Nat} {mv : Array Value} {p g N c q : Nat} {v : Value} {la lb : List (Nat × Value)} {fan nx : Nat} {pre post : List Leaf} {y : Leaf} {k : ByteArray}

set_option maxHeartbeats 4000000 in
set_option maxRecDepth 100000 in
theorem remove_none (h : Found w p g N c q v la lb fan nx pre post y k) (hf : k ∉ y.ks) :
    Calls Tryd.prog 23 #[.pointer (some ⟨p, 0, none⟩), .string k] w fun e w' => e = .returned (ansV ⟨0, 0, 0, 60⟩) ∧ Below w.heap.size w w' := by
  have hb : Below w.heap.size w (w.alloc (.cells #[.int .i64 0, .int .i64 0] 37)) := (Below.refl _ _).alloc (Nat.le_refl _) _
  have HL := Lib.hid (h.fresh hb)
  have HM := Lib.hid (Row5.new w 37 #[.int .i64 0, .int .i64 0])
  have HF := Lib.hid (decide_eq_false hf)
  have p1 := HL.out.here.p1; have gi := HL.out.here.gi; have q2 := HL.out.here.q2
  have i0 : (0 : Int) ≤ (pre.length : Int) := by omega
  have i1 : (pre.length : Int) < (N : Int) := by have := h.here.lt; omega
  have HB := Lib.hid hb
  clear hf h hb
  go_enter Tryd.func23, Tryd.ntmps23
  go_wp2_with (first | (go_at_call 36; refine (at_at _ _ _ _ _ HL.out.here.hl HL.out.inv _ _ HL.out.at').mono ?_; rintro e w1 ⟨rfl, rfl⟩) | (go_at_call 37; refine (search_at _ _ _ HL.out.here.own HL.out.srt (by have := HL.out.here.ks; omega) _ _ _ rfl HF.out).mono ?_; rintro e w1 ⟨rfl, nq, rfl⟩) | (refine wpList_store_any rfl 37 (.tmp 5) (.tmp 35) rfl w.heap.size #[.int .i64 0, .int .i64 0] rfl rfl 37 #[.int .i64 0, .int .i64 0] (HM.out.drewN nq) info37 rfl (all2 rfl rfl) ?_; intro W2 hR0 hW0 hz0; have hR := Lib.hid hR0; have hW := Lib.hid (hW0 w.heap.size w (below_drewN HB.out nq) (Nat.le_refl _)); clear hR0 hW0 hz0))
  exact bodyPost_ret (results_mid (p := 5) (u := 4) (v := 6) rfl _ W2 w.heap.size 37 _ _ rfl hR.out Tryd.underlying37 rfl info37) rfl ⟨rfl, hW.out⟩

theorem delK_length {ks : List ByteArray} {k : ByteArray} (hs : Srt ks) (hk : k ∈ ks) {m : Nat} (hm : ks.length = m + 1) : (delK ks k).length = m := by
  obtain ⟨hp, _⟩ := pos_mem hs hk
  unfold delK; simp; omega

/- KEEP -/
set_option maxHeartbeats 4000000 in
set_option maxRecDepth 100000 in
theorem remove_keep1 (h : Found w p g N c q v la lb fan nx pre post y k) (hf : k ∈ y.ks) (m : Nat) (hmm : y.ks.length = m + 1) (hm0 : (0 : Int) < (m : Int)) :
    Calls Tryd.prog 23 #[.pointer (some ⟨p, 0, none⟩), .string k] w fun e w' => e = .returned (ansV ⟨y.n, 0, 0, 0⟩) ∧
      Changed w (foot p (.slice (some ⟨g, 0, none⟩) N c) (la ++ (q, v) :: lb)) p ⟨fan, nx, pre ++ { y with ks := delK y.ks k } :: post⟩ w' := by
  obtain ⟨F, hFe⟩ : ∃ F, foot p (.slice (some ⟨g, 0, none⟩) N c) (la ++ (q, v) :: lb) = F := ⟨_, rfl⟩
  have hm := Mid.start h.here #[.int .i64 0, .int .i64 0]
  rw [hFe] at hm ⊢
  have hdl := delK_length h.srt hf hmm
  have hown := h.here.own
  rw [hmm] at hown
  rcases own_cases hown with ⟨_, e, _⟩ | ⟨b, c', cur, rfl, _⟩
  · cases e
  have HL := Lib.hid hm
  have hfr := h.fresh ((Below.refl _ _).alloc (Nat.le_refl _) (.cells #[.int .i64 0, .int .i64 0] 37))
  have HA := Lib.hid hfr
  have HF := Lib.hid hf
  have HF' := Lib.hid (decide_eq_true hf)
  have p1 := HL.out.here.p1; have gi := HL.out.here.gi; have q2 := HL.out.here.q2
  have i0 : (0 : Int) ≤ (pre.length : Int) := by omega
  have i1 : (pre.length : Int) < ((N : Nat) : Int) := by have := h.here.lt; omega
  obtain ⟨P, hP⟩ : ∃ P, pos y.ks k = P := ⟨_, rfl⟩
  have HP := Lib.hid hP
  have hP1 : (P : Int) < 4096 := by have := pos_le y.ks k; have := h.here.ks; omega
  have hP0 : (0 : Int) ≤ (P : Int) := by omega
  obtain ⟨bd, hq, hbd⟩ := hm.here.qrow
  have HQ := Lib.hid hq
  have HD := Lib.hid hbd
  have HS := Lib.hid hmm
  have HDL := Lib.hid hdl
  clear hmm hf h hm hfr hFe hP hq hbd hown hdl
  go_enter Tryd.func23, Tryd.ntmps23
  go_wp2_with (first | (go_at_call 36; refine (at_at _ _ _ _ _ HL.out.here.hl HA.out.inv _ _ HA.out.at').mono ?_; rintro e w1 ⟨rfl, rfl⟩) | (go_at_call 37; refine (search_at _ _ _ HL.out.here.own HA.out.srt (by have := HL.out.here.ks; omega) _ _ _ HP.out HF'.out).mono ?_; rintro e w1 ⟨rfl, n0, rfl⟩) | (go_at_call 38; refine (delS_at _ b c' y.ks m HS.out ((HL.out.drewN n0).here.own) k HA.out.srt HF.out P HP.out).mono ?_; rintro e w1 ⟨rfl, ho, hkeep⟩; have HO := Lib.hid ho; have HK := Lib.hid hkeep; clear ho hkeep) | (refine wpList_cell_row rfl 68 (.tmp 46) (.tmp 44) rfl q 2 (.slice (some ⟨b, 0, none⟩) m c') rfl rfl rfl 70 #[.int .i64 y.n, .string bd, .slice (some ⟨b, 0, none⟩) (m + 1) c'] #[.int .i64 y.n, .string bd, .slice (some ⟨b, 0, none⟩) m c'] ((HL.out.drewN n0).row (HQ.out.drewN n0) HK.out) rfl rfl info68 ?_; intro W2 hr0 hk0; have HL2 := Lib.hid ((HL.out.drewN n0).keys2 (ks := delK y.ks k) HD.out HK.out (by rw [HDL.out]; exact HO.out) (fun b' hb' => by cases hb'; exact .inl rfl) hk0 hr0 (by have := HL.out.here.ks; have := HS.out; have := HDL.out; omega)); clear hr0 hk0; have q2' := HL2.out.here.q2; have p1' := HL2.out.here.p1; have q0' := HL2.out.here.q0) | (refine wpList_store_keep rfl 37 (.tmp 5) (.tmp 65) rfl w.heap.size #[.int .i64 0, .int .i64 0] rfl rfl 37 _ (HL2.out).mv info37 rfl (all2 rfl rfl) ?_; intro W3 hr0 hk0; have HL3 := Lib.hid (HL2.out.told hk0 hr0); clear hr0 hk0))
  exact bodyPost_ret (results_mid (p := 5) (u := 4) (v := 6) rfl _ W3 w.heap.size 37 _ _ rfl HL3.out.mv Tryd.underlying37 rfl info37) rfl ⟨rfl, HL3.out.finish⟩

set_option maxHeartbeats 4000000 in
set_option maxRecDepth 100000 in
theorem remove_keep2 (h : Found w p g 1 c q v la lb fan nx pre post y k) (hf : k ∈ y.ks) (hmm : y.ks.length = 0 + 1) :
    Calls Tryd.prog 23 #[.pointer (some ⟨p, 0, none⟩), .string k] w fun e w' => e = .returned (ansV ⟨y.n, 0, 0, 0⟩) ∧
      Changed w (foot p (.slice (some ⟨g, 0, none⟩) 1 c) (la ++ (q, v) :: lb)) p ⟨fan, nx, pre ++ { y with ks := delK y.ks k } :: post⟩ w' := by
  obtain ⟨F, hFe⟩ : ∃ F, foot p (.slice (some ⟨g, 0, none⟩) 1 c) (la ++ (q, v) :: lb) = F := ⟨_, rfl⟩
  have hm := Mid.start h.here #[.int .i64 0, .int .i64 0]
  rw [hFe] at hm ⊢
  have hdl := delK_length h.srt hf hmm
  have hown := h.here.own
  rw [hmm] at hown
  rcases own_cases hown with ⟨_, e, _⟩ | ⟨b, c', cur, rfl, _⟩
  · cases e
  have HL := Lib.hid hm
  have hfr := h.fresh ((Below.refl _ _).alloc (Nat.le_refl _) (.cells #[.int .i64 0, .int .i64 0] 37))
  have HA := Lib.hid hfr
  have HF := Lib.hid hf
  have HF' := Lib.hid (decide_eq_true hf)
  have p1 := HL.out.here.p1; have gi := HL.out.here.gi; have q2 := HL.out.here.q2
  have i0 : (0 : Int) ≤ (pre.length : Int) := by omega
  have i1 : (pre.length : Int) < ((1 : Nat) : Int) := by have := h.here.lt; omega
  obtain ⟨P, hP⟩ : ∃ P, pos y.ks k = P := ⟨_, rfl⟩
  have HP := Lib.hid hP
  have hP1 : (P : Int) < 4096 := by have := pos_le y.ks k; have := h.here.ks; omega
  have hP0 : (0 : Int) ≤ (P : Int) := by omega
  obtain ⟨bd, hq, hbd⟩ := hm.here.qrow
  have HQ := Lib.hid hq
  have HD := Lib.hid hbd
  have HS := Lib.hid hmm
  have HDL := Lib.hid hdl
  clear hmm hf h hm hfr hFe hP hq hbd hown hdl
  go_enter Tryd.func23, Tryd.ntmps23
  go_wp2_with (first | (go_at_call 36; refine (at_at _ _ _ _ _ HL.out.here.hl HA.out.inv _ _ HA.out.at').mono ?_; rintro e w1 ⟨rfl, rfl⟩) | (go_at_call 37; refine (search_at _ _ _ HL.out.here.own HA.out.srt (by have := HL.out.here.ks; omega) _ _ _ HP.out HF'.out).mono ?_; rintro e w1 ⟨rfl, n0, rfl⟩) | (go_at_call 38; refine (delS_at _ b c' y.ks 0 HS.out ((HL.out.drewN n0).here.own) k HA.out.srt HF.out P HP.out).mono ?_; rintro e w1 ⟨rfl, ho, hkeep⟩; have HO := Lib.hid ho; have HK := Lib.hid hkeep; clear ho hkeep) | (refine wpList_cell_row rfl 68 (.tmp 46) (.tmp 44) rfl q 2 (.slice (some ⟨b, 0, none⟩) 0 c') rfl rfl rfl 70 #[.int .i64 y.n, .string bd, .slice (some ⟨b, 0, none⟩) (0 + 1) c'] #[.int .i64 y.n, .string bd, .slice (some ⟨b, 0, none⟩) 0 c'] ((HL.out.drewN n0).row (HQ.out.drewN n0) HK.out) rfl rfl info68 ?_; intro W2 hr0 hk0; have HL2 := Lib.hid ((HL.out.drewN n0).keys2 (ks := delK y.ks k) HD.out HK.out (by rw [HDL.out]; exact HO.out) (fun b' hb' => by cases hb'; exact .inl rfl) hk0 hr0 (by have := HL.out.here.ks; have := HS.out; have := HDL.out; omega)); clear hr0 hk0; have q2' := HL2.out.here.q2; have p1' := HL2.out.here.p1; have q0' := HL2.out.here.q0) | (refine wpList_store_keep rfl 37 (.tmp 5) (.tmp 65) rfl w.heap.size #[.int .i64 0, .int .i64 0] rfl rfl 37 _ (HL2.out).mv info37 rfl (all2 rfl rfl) ?_; intro W3 hr0 hk0; have HL3 := Lib.hid (HL2.out.told hk0 hr0); clear hr0 hk0))
  exact bodyPost_ret (results_mid (p := 5) (u := 4) (v := 6) rfl _ W3 w.heap.size 37 _ _ rfl HL3.out.mv Tryd.underlying37 rfl info37) rfl ⟨rfl, HL3.out.finish⟩

/- KEPT -/
/-- A leaf without keys is taken away. -/
theorem Mid.fewer {sv' : Value} (h : Mid w0 w F mv p g N c q v la lb fan nx pre post y) (hk1 : Keep [g] w w1) (hk2 : Keep [p] w1 w2)
    (ho : w1.ownsRow 0 67 1 sv' (la ++ lb).length ((la ++ lb).map ptrV)) (hsv : ∀ b, sv'.ownBlock = some b → b = g) (hr : Row5 w2 p 73 #[.int .i64 fan, sv', .int .i64 nx]) :
    Fin w0 w2 F mv p sv' (la ++ lb) ⟨fan, nx, open0 (pre ++ post)⟩ := by
  have hp : p ∈ foot p (.slice (some ⟨g, 0, none⟩) N c) (la ++ (q, v) :: lb) := mem_foot.2 (.inl rfl)
  have hg : g ∈ foot p (.slice (some ⟨g, 0, none⟩) N c) (la ++ (q, v) :: lb) := mem_foot.2 (.inr (.inl rfl))
  have hkk : Keep (g :: [p]) w w2 := (hk1.mono (fun i hi => by rw [List.mem_singleton.1 hi]; simp)).trans hk2 (fun i hi => .inl (List.mem_cons_of_mem _ hi))
  have hpg : sv'.ownBlock ≠ some p := fun e => (foot_nd.1 h.here.hl.nd).2.1 (by rw [hsv p e]; rfl)
  have hlv' := h.here.hl.fewer h.here.la hkk (fun b hb => by
      rcases List.mem_cons.1 hb with e | e
      · exact .inr (.inl (by rw [e]; rfl))
      · exact .inl (List.mem_singleton.1 e)) hr
    (hk2.own ho (fun b hb e => hpg (by rw [List.mem_singleton.1 e] at hb; exact hb)))
    (fun b hb => .inl (by rw [hsv b hb]; rfl))
  refine ⟨hlv', hkk.row h.mv (fun c => ?_), fun b hb => ?_, h.keep.trans hkk (fun b hb => ?_), h.old⟩
  · rcases List.mem_cons.1 c with e | e
    · exact h.ne g hg e.symm
    · exact h.ne p hp (List.mem_singleton.1 e).symm
  · rcases mem_foot.1 hb with e | e | e
    · exact h.sub b (by rw [e]; exact hp)
    · exact h.sub b (by rw [hsv b e]; exact hg)
    · exact h.sub b (mem_foot.2 (.inr (.inr (mem_footL_mid.2 (.inr (.inr e))))))
  · have hs := h.size
    rcases List.mem_cons.1 hb with e | e
    · rcases h.sub g hg with k | k
      · exact .inl (by rw [e]; exact k)
      · exact .inr (by omega)
    · rcases h.sub p hp with k | k
      · exact .inl (by rw [List.mem_singleton.1 e]; exact k)
      · exact .inr (by rw [List.mem_singleton.1 e]; omega)

/-- The pointer and the number of a leaf at a place. -/
theorem Fin.nth {sv' : Value} {ls : List (Nat × Value)} {s : St} {n c' J : Nat} (h : Fin w0 w F mv p sv' ls s) (hsv : sv' = .slice (some ⟨g, 0, none⟩) n c') (hn : n = ls.length) (hJ : J < ls.length) :
    ∃ r z, s.l[J]? = some z ∧ w.cell? ⟨g, J, none⟩ = some (.pointer (some ⟨r, 0, none⟩)) ∧ w.cell? ⟨r, 0, none⟩ = some (.int .i64 z.n) := by
  have hl := h.lv
  subst hsv hn
  have hJ' : J < s.l.length := by have := hl.len; omega
  have hz : s.l[J]? = some s.l[J] := List.getElem?_eq_getElem hJ'
  have hr : ls[J]? = some ls[J] := List.getElem?_eq_getElem hJ
  obtain ⟨bd, hrow, _⟩ := (hl.each J _ _ hr hz).row
  exact ⟨ls[J].1, s.l[J], hz, hl.ptr J ls[J] hr, hrow.cell 0⟩

set_option maxHeartbeats 4000000 in
set_option maxRecDepth 100000 in
theorem remove_leaf (h : Found w p g (N + 1) c q v la lb fan nx pre post y k) (hf : k ∈ y.ks) (hmm : y.ks.length = 0 + 1) (hN : 1 ≤ N) (J : Nat) (hJ : max ((pre.length : Int) - 1) 0 = (J : Int)) :
    Calls Tryd.prog 23 #[.pointer (some ⟨p, 0, none⟩), .string k] w fun e w' => e = .returned (ansV ⟨y.n, y.n, ((open0 (pre ++ post))[J]?.map (·.n)).getD 0, 0⟩) ∧
      Changed w (foot p (.slice (some ⟨g, 0, none⟩) (N + 1) c) (la ++ (q, v) :: lb)) p ⟨fan, nx, open0 (pre ++ post)⟩ w' := by
  obtain ⟨F, hFe⟩ : ∃ F, foot p (.slice (some ⟨g, 0, none⟩) (N + 1) c) (la ++ (q, v) :: lb) = F := ⟨_, rfl⟩
  have hm := Mid.start h.here #[.int .i64 0, .int .i64 0]
  rw [hFe] at hm ⊢
  have hdl := delK_length h.srt hf hmm
  have hown := h.here.own
  rw [hmm] at hown
  rcases own_cases hown with ⟨_, e, _⟩ | ⟨b, c', cur, rfl, _⟩
  · cases e
  have HL := Lib.hid hm
  have hfr := h.fresh ((Below.refl _ _).alloc (Nat.le_refl _) (.cells #[.int .i64 0, .int .i64 0] 37))
  have HA := Lib.hid hfr
  have HF := Lib.hid hf
  have HF' := Lib.hid (decide_eq_true hf)
  have p1 := HL.out.here.p1; have gi := HL.out.here.gi; have q2 := HL.out.here.q2
  have i0 : (0 : Int) ≤ (pre.length : Int) := by omega
  have i1 : (pre.length : Int) < ((N + 1 : Nat) : Int) := by have := h.here.lt; omega
  have i2 : ¬ ((N + 1 : Nat) : Int) = 1 := by omega
  have i3 : ((N + 1 : Nat) : Int) ≤ 4096 := by have := h.here.n; omega
  have j0 : (0 : Int) ≤ (J : Int) := by omega
  have j1 : (J : Int) < (N : Int) := by have := h.here.lt; omega
  obtain ⟨P, hP⟩ : ∃ P, pos y.ks k = P := ⟨_, rfl⟩
  have HP := Lib.hid hP
  have hP1 : (P : Int) < 4096 := by have := pos_le y.ks k; have := h.here.ks; omega
  have hP0 : (0 : Int) ≤ (P : Int) := by omega
  obtain ⟨bd, hq, hbd⟩ := hm.here.qrow
  have HQ := Lib.hid hq
  have HD := Lib.hid hbd
  have HS := Lib.hid hmm
  have HDL := Lib.hid hdl
  have HJ := Lib.hid hJ
  have HN := Lib.hid hN
  clear hmm hf h hm hfr hFe hP hq hbd hown hdl hJ hN
  go_enter Tryd.func23, Tryd.ntmps23
  go_wp2_with (first | (go_at_call 36; refine (at_at _ _ _ _ _ HL.out.here.hl HA.out.inv _ _ HA.out.at').mono ?_; rintro e w1 ⟨rfl, rfl⟩) | (go_at_call 37; refine (search_at _ _ _ HL.out.here.own HA.out.srt (by have := HL.out.here.ks; omega) _ _ _ HP.out HF'.out).mono ?_; rintro e w1 ⟨rfl, n0, rfl⟩) | (go_at_call 38; refine (delS_at _ b c' y.ks 0 HS.out ((HL.out.drewN n0).here.own) k HA.out.srt HF.out P HP.out).mono ?_; rintro e w1 ⟨rfl, ho, hkeep⟩; have HO := Lib.hid ho; have HK := Lib.hid hkeep; clear ho hkeep) | (refine wpList_cell_row rfl 68 (.tmp 46) (.tmp 44) rfl q 2 (.slice (some ⟨b, 0, none⟩) 0 c') rfl rfl rfl 70 #[.int .i64 y.n, .string bd, .slice (some ⟨b, 0, none⟩) (0 + 1) c'] #[.int .i64 y.n, .string bd, .slice (some ⟨b, 0, none⟩) 0 c'] ((HL.out.drewN n0).row (HQ.out.drewN n0) HK.out) rfl rfl info68 ?_; intro W2 hr0 hk0; have HL2 := Lib.hid ((HL.out.drewN n0).keys2 (ks := delK y.ks k) HD.out HK.out (by rw [HDL.out]; exact HO.out) (fun b' hb' => by cases hb'; exact .inl rfl) hk0 hr0 (by have := HL.out.here.ks; have := HS.out; have := HDL.out; omega)); have HQ2 := Lib.hid hr0; clear hr0 hk0; have q2' := HL2.out.here.q2; have p1' := HL2.out.here.p1; have q0' := HL2.out.here.q0) | (go_at_call 39; refine (delP_at _ g N c la lb q _ HL2.out.here.len.symm HL2.out.here.hl.own pre.length HL2.out.here.la).mono ?_; rintro e w3 ⟨rfl, ho3, hk3⟩; have HO3 := Lib.hid ho3; have HK3 := Lib.hid hk3; clear ho3 hk3) | (refine wpList_cell_row rfl 71 (.tmp 76) (.tmp 74) rfl p 1 (.slice (some ⟨g, 0, none⟩) N c) rfl rfl rfl 73 #[.int .i64 fan, .slice (some ⟨g, 0, none⟩) (N + 1) c, .int .i64 nx] #[.int .i64 fan, .slice (some ⟨g, 0, none⟩) N c, .int .i64 nx] (HK3.out.row HL2.out.here.hl.row (fun e => (foot_nd.1 HL2.out.here.hl.nd).2.1 (by rw [← List.mem_singleton.1 e]; rfl))) rfl rfl info71 ?_; intro W4 hr0 hk0; have HF4 := Lib.hid (HL2.out.fewer HK3.out hk0 HO3.out (fun b' hb' => by cases hb'; rfl) hr0); have HQ4 := Lib.hid (hk0.row (HK3.out.row HQ2.out (fun e => (foot_nd.1 HL2.out.here.hl.nd).2.2.1 g rfl (mem_footL_mid.2 (.inl (List.mem_singleton.1 e).symm)))) (fun e => (foot_nd.1 HL2.out.here.hl.nd).1 (mem_footL_mid.2 (.inl (List.mem_singleton.1 e).symm)))); clear hr0 hk0))
  clear q2' p1' q0'
  have hlb : (la ++ lb).length = N := by have := HL2.out.here.len; simp at this ⊢; omega
  obtain ⟨r, z, hz, gJ, r0⟩ := HF4.out.nth rfl hlb.symm (J := J) (by omega)
  have HZ := Lib.hid (show ((open0 (pre ++ post))[J]?.map (·.n)).getD 0 = z.n by rw [show (open0 (pre ++ post))[J]? = some z from hz]; rfl)
  have q0' : W4.cell? ⟨q, 0, none⟩ = some (.int .i64 y.n) := HQ4.out.cell 0
  have p1' : W4.cell? ⟨p, 1, none⟩ = some (.slice (some ⟨g, 0, none⟩) N c) := HF4.out.lv.row.cell 1
  have e1 : max (IntKind.i64.wrap ((pre.length : Int) - 1)) 0 = (J : Int) := by
    rw [show IntKind.i64.wrap ((pre.length : Int) - 1) = (pre.length : Int) - 1 by rw [IntKind.wrap_i64]; omega]; exact HJ.out
  clear hz hlb
  go_still_tail 22, (by kernel_rfl)
  refine wpList_store_keep rfl 37 (.tmp 5) (.tmp 97) rfl w.heap.size #[.int .i64 y.n, .int .i64 z.n] rfl rfl 37 _ (HF4.out.call (Below.refl _ _).drew).mv info37 rfl (all2 rfl rfl) ?_
  intro W5 hr0 hk0
  have HF5 := Lib.hid ((HF4.out.call (Below.refl _ _).drew).told hk0 hr0)
  clear hr0 hk0
  go_wp2
  exact bodyPost_ret (results_mid (p := 5) (u := 4) (v := 6) rfl _ W5 w.heap.size 37 _ _ rfl HF5.out.mv Tryd.underlying37 rfl info37) rfl ⟨by first | rfl | (rw [HZ.out]; rfl), HF5.out.finish⟩

end

/-- A key fewer, wherever it stands. -/
theorem remove_any (w : World) (p : Nat) (sv : Value) (ls : List (Nat × Value)) (s : St) (hl : LvsAt w p sv ls s) (ho : Ok s) (hn : s.l.length < 4096) (k : ByteArray) :
    Calls Tryd.prog 23 #[.pointer (some ⟨p, 0, none⟩), .string k] w fun e w' => e = .returned (ansV (rem s k).1) ∧ Changed w (foot p sv ls) p (rem s k).2 w' := by
  obtain ⟨g, N, c, q, v, la, lb, pre, post, y, rfl, rfl, e, hf⟩ := hl.found ho hn k
  obtain ⟨fan, nx, l⟩ := s
  simp only at e hf
  subst e
  rw [rem_eq (s := ⟨fan, nx, pre ++ y :: post⟩) rfl hf.at']
  by_cases h1 : k ∈ y.ks
  · rw [if_pos h1]
    obtain ⟨m, hmm⟩ : ∃ m, y.ks.length = m + 1 := ⟨y.ks.length - 1, by have := List.length_pos_of_mem h1; omega⟩
    have hdl := delK_length hf.srt h1 hmm
    have hN : N = (pre ++ y :: post).length := by have := hf.here.len; have := hf.here.la; have := hl.len; simp at *; omega
    rw [hdl]
    rcases m with _ | m
    · by_cases h2 : (pre ++ y :: post).length = 1
      · rw [if_neg (fun h => h.2 h2)]
        obtain rfl : N = 1 := by omega
        exact remove_keep2 hf h1 hmm
      · rw [if_pos ⟨rfl, h2⟩]
        have h3 : (pre ++ y :: post).length = pre.length + (post.length + 1) := by simp
        obtain ⟨N', rfl⟩ : ∃ N', N = N' + 1 := ⟨N - 1, by omega⟩
        exact remove_leaf hf h1 hmm (by omega) (pre.length - 1) (by omega)
    · rw [if_neg (fun h => by omega)]
      exact remove_keep1 hf h1 (m + 1) hmm (by omega)
  · rw [if_neg h1]
    exact (remove_none hf h1).mono fun e w' ⟨he, hb⟩ => ⟨he, _, _, hl.fresh hb, fun b hb => .inl hb, Keep.of_below hb _⟩
end Go.Proofs.YtecmppmkidefmaaDoor
