/-
  slices.Insert of one pointer: the walk over the library's text at this program's element type, road by road; in the words of rows that a slice owns.
-/
import Derived.Test.YtecmppmkidefmaaDoorH2
import Derived.Deep.RegionLaw
import Derived.Lib.AppendZerosOnto
import Derived.Laws.NewBlocks
namespace Go.Proofs.YtecmppmkidefmaaDoor
open Go.RowKit LeafW Go.Lib

set_option linter.unusedVariables false

theorem infoP : (Tryd.prog.info? 67).map (fun i => (i.zero, i.size, i.bytes)) = some (some (.pointer none), 1, 8) := by kernel_rfl
theorem sizeP : (Tryd.prog.info? 67).map (·.size) = some 1 := by kernel_rfl

section
variable (g n c i vb : Nat) (cs : List Value) (x : Value) (w : World)

theorem cellsD {w : World} {g n : Nat} {T : TypeId} {cur : Array Value} {cs : List Value} (hg : Row5 w g T cur) (ht : cur.toList.take n = cs) (j : Nat) (u : Value) (hj : cs[j]? = some u) : w.cell? ⟨g, j, none⟩ = some u := by
  rw [hg.cell]
  rw [← ht, List.getElem?_take] at hj
  split at hj
  · simpa using hj
  · cases hj

set_option maxHeartbeats 4000000 in
set_option maxRecDepth 100000 in
theorem insP_shift (hi : i < n) (hroom : n + 1 ≤ c) (hc63 : c ≤ 9223372036854775807) (hvb : vb ≠ g) (hcl : cs.length = n) (cur : Array Value) (hg : Row5 w g 67 cur) (hs : cur.size = c) (ht : cur.toList.take n = cs)
    (hx : Row5 w vb 67 #[x]) (h1c : ∀ v ∈ cs, v.oneCell' = true) (h1x : x.oneCell' = true) :
    Calls Tryd.prog 42 #[.slice (some ⟨g, 0, none⟩) n c, .int .i64 i, .slice (some ⟨vb, 0, none⟩) 1 1] w fun e w' =>
      e = .returned (.slice (some ⟨g, 0, none⟩) (n + 1) c) ∧ w' = (w.drew.setCells g (i + 1) (cs.drop i)).setCells g i [x] := by
  have hsp : ∀ j, j < n + 1 → (w.cell? ⟨g, j, none⟩).isSome = true := fun j hj => by rw [hg.cell, Array.getElem?_eq_getElem (by omega)]; rfl
  have hov : ∀ lb cb, (callFunc 57 #[.slice (some ⟨vb, 0, none⟩) 1 1, .slice (some ⟨g, i + 1, none⟩) lb cb]).run Tryd.prog w = .ok (.value (.bool false)) w := fun lb cb => by
    rw [run_callFunc_extern Tryd.func57 (by kernel_rfl) (by kernel_rfl) (by kernel_rfl) (e := Extern.SlicesOverlaps.overlaps #[71, 71] #[4]) (by kernel_rfl),
      Lib.run_overlaps_apart w 71 4 67 Tryd.underlying71 1 Tryd.sizeOf67 ⟨vb, 0, none⟩ ⟨g, i + 1, none⟩ 1 1 lb cb hvb 67 67 1 c
        (by unfold World.shape?; rw [show w.heap[vb]? = _ from hx]; rfl) (by unfold World.shape?; rw [show w.heap[g]? = _ from hg]; simp [hs]) (by omega) (hx.free _) (hx.free _)]
    rfl
  have hdl : (cs.drop i).length = n - i := by rw [List.length_drop, hcl]
  have hcp1 : ∀ ty dc sc, (Builtin.copy_ #[71, 71] ty #[.slice (some ⟨g, i + 1, none⟩) (n - i) dc, .slice (some ⟨g, i, none⟩) (n + 1 - i) sc]).run Tryd.prog w.drew = .ok (goInt (cs.drop i).length) (w.drew.setCells g (i + 1) (cs.drop i)) := fun ty dc sc =>
    run_copy_cells w.drew _ _ ty 67 g (i + 1) (n - i) dc ⟨g, i, none⟩ (n + 1 - i) sc (cs.drop i) Tryd.underlying71 sizeP (by rw [hdl]; simp only [Nat.min_def]; split <;> omega)
      (fun j v hj => by rw [Addr.add_lit]; exact cellsD (w := w) hg ht (i + j) v (by rwa [List.getElem?_drop] at hj))
      (fun j hj => hsp _ (by omega)) (fun j hj => hg.free _) (fun v hv => h1c v (List.mem_of_mem_drop hv))
  obtain ⟨W1, hW1⟩ : ∃ W1, W1 = w.drew.setCells g (i + 1) (cs.drop i) := ⟨_, rfl⟩
  have hr1 : Row5 W1 g 67 (putList cur (i + 1) (cs.drop i)) := by rw [hW1]; exact setCells_row _ _ _ _ (show Row5 w.drew g _ cur from hg)
  have hx1 : Row5 W1 vb 67 #[x] := by
    rw [hW1]; exact ((keep_drew [g] w).trans (setCells_keep _ _ _) (fun _ h => .inl h)).row hx (by simp [hvb])
  have hcp2 : ∀ ty dc, (Builtin.copy_ #[71, 71] ty #[.slice (some ⟨g, i, none⟩) (n + 1 - i) dc, .slice (some ⟨vb, 0, none⟩) 1 1]).run Tryd.prog W1 = .ok (goInt [x].length) (W1.setCells g i [x]) := fun ty dc =>
    run_copy_cells W1 _ _ ty 67 g i (n + 1 - i) dc ⟨vb, 0, none⟩ 1 1 [x] Tryd.underlying71 sizeP (by simp only [Nat.min_def, List.length_cons, List.length_nil]; split <;> omega)
      (fun j v hj => by
        rw [Addr.add_lit, Nat.zero_add, hx1.cell]
        cases j with
        | zero => exact hj
        | succ j => simp at hj)
      (fun j hj => by rw [hr1.cell, Array.getElem?_eq_getElem (by rw [putList_size]; simp at hj; omega)]; rfl) (fun j hj => hr1.free _) (fun v hv => by simp at hv; subst hv; exact h1x)
  rw [← hW1] at hcp1
  have hw1 : IntKind.i64.wrap ((i : Int) + 1) = (i : Int) + 1 := by rw [IntKind.wrap_i64]; omega
  have hb1 : (0 : Int) ≤ (i : Int) + 1 := by omega
  have hin : i ≤ n := by omega
  have htn : ((i : Int) + 1).toNat = i + 1 := by omega
  have hb2 : ¬ (c = i + 1) := by omega
  have hb3 : (i : Int) ≤ (n : Int) + 1 := by omega
  have hb4 : ¬ (c = i) := by omega
  have hz2 : ¬ ((i : Int) = (n : Int)) := by omega
  have HG := Lib.hid hg
  have HX := Lib.hid hx
  have HR := Lib.hid hr1
  have HX1 := Lib.hid hx1
  have HW := Lib.hid hW1
  clear hg hx hr1 hx1 ht hs hsp hdl hcl hW1
  go_enter Tryd.func42, Tryd.ntmps42
  go_wp2_with (simp only [hov])
  go_region_law (refine step_copy_runI rfl _ _ 71 71 rfl _ _ (by simp [Act.eval, Act.put]) (by simp [Act.eval, Act.put]) (hcp1 _ _ _) ?_)
  go_wp2_with (at_builtin; refine wpList_copy_runI _ rfl _ _ 71 71 rfl _ _ rfl rfl (hcp2 _ _) ?_)
  go_ret
  exact ⟨rfl, by rw [HW.out]⟩

theorem srcP {w : World} {vb : Nat} {x : Value} (hx : Row5 w vb 67 #[x]) (h1x : x.oneCell' = true) : Src Tryd.prog 1 71 (.slice (some ⟨vb, 0, none⟩) 1 1) 1 [x] w :=
  Src.ofSlice w Tryd.underlying71 ⟨vb, 0, none⟩ 1 1 [x] rfl (fun j u hj => by
    rw [Addr.add_lit, Nat.zero_add, hx.cell]
    cases j with
    | zero => exact hj
    | succ j => simp at hj) (fun v hv => by simp at hv; subst hv; exact h1x)

set_option maxHeartbeats 4000000 in
set_option maxRecDepth 100000 in
theorem insP_end (hroom : n + 1 ≤ c) (hc63 : c ≤ 9223372036854775807) (cur : Array Value) (hg : Row5 w g 67 cur) (hs : cur.size = c)
    (hx : Row5 w vb 67 #[x]) (h1x : x.oneCell' = true) :
    Calls Tryd.prog 42 #[.slice (some ⟨g, 0, none⟩) n c, .int .i64 n, .slice (some ⟨vb, 0, none⟩) 1 1] w fun e w' =>
      e = .returned (.slice (some ⟨g, 0, none⟩) (n + 1) c) ∧ w' = w.setCells g n [x] := by
  obtain ⟨i0, hi0, hz0, hzs, hzb⟩ := info_parts infoP
  have hsrc := srcP hx h1x
  have hsp : ∀ j, j < [x].length → (w.cell? ⟨g, 0 + n + j, none⟩).isSome = true := fun j hj => by rw [hg.cell, Array.getElem?_eq_getElem (by simp at hj; omega)]; rfl
  have hfz : ∀ j, j < [x].length → w.frozen? ⟨g, 0 + n + j, none⟩ = false := fun j _ => hg.free _
  clear hg hs hx
  go_enter Tryd.func42, Tryd.ntmps42
  go_wp2_with (at_builtin; refine wpList_append_room1 _ rfl _ _ 71 71 rfl 67 _ _ Tryd.underlying71 infoP g 0 n c rfl _ rfl 1 [x] hsrc hroom hsp hfz ?_)
  go_ret
  exact ⟨rfl, rfl⟩

set_option maxHeartbeats 4000000 in
set_option maxRecDepth 100000 in
theorem insP_end_grow (hnc : n ≤ c) (hroom : c < n + 1) (hbig : (n + 1) * 8 ≤ 140737488355328) (hcl : cs.length = n) (cur : Array Value) (hg : Row5 w g 67 cur) (ht : cur.toList.take n = cs)
    (hx : Row5 w vb 67 #[x]) (h1x : x.oneCell' = true) :
    Calls Tryd.prog 42 #[.slice (some ⟨g, 0, none⟩) n c, .int .i64 n, .slice (some ⟨vb, 0, none⟩) 1 1] w fun e w' =>
      e = .returned (.slice (some ⟨w.heap.size, 0, none⟩) (n + 1) (grownCap w (n + 1) c 67)) ∧
      w' = w.drew.alloc (.cells ((cs ++ [x]).toArray ++ Builtin.zeroCells (Value.pointer none).cells (grownCap w (n + 1) c 67 - (n + 1))) 67) := by
  obtain ⟨i0, hi0, hz0, hzs, hzb⟩ := info_parts infoP
  have hsrc : Src Tryd.prog i0.size 71 (.slice (some ⟨vb, 0, none⟩) 1 1) 1 [x] w := by rw [hzs]; exact srcP hx h1x
  have hold : (Builtin.firstCells i0.size n (.slice (some ⟨g, 0, none⟩) n c)).run Tryd.prog w.drew = .ok cs.toArray w.drew := by
    rw [hzs]
    exact run_firstCells_some w.drew 1 n ⟨g, 0, none⟩ n c cs (by omega) (fun j v hj => by rw [Addr.add_lit, Nat.zero_add]; exact cellsD (w := w) hg ht j v hj)
  have hrun : ∀ ty, (Builtin.append_ #[71, 71] ty #[.slice (some ⟨g, 0, none⟩) n c, .slice (some ⟨vb, 0, none⟩) 1 1]).run Tryd.prog w = _ := fun ty =>
    run_append_grow_src w 71 71 ty 67 i0 _ Tryd.underlying71 hi0 hz0 (some ⟨g, 0, none⟩) n c cs hold _ 1 [x] hsrc hroom (by omega) (by rw [hzb]; exact growslice_fits hroom hbig)
  clear hg ht hx hold
  go_enter Tryd.func42, Tryd.ntmps42
  go_wp2_with (at_builtin; refine Lib.wpList_append_run _ rfl _ _ _ _ rfl _ _ rfl rfl _ _ (hrun _) ?_)
  all_goals (go_ret; exact ⟨rfl, rfl⟩)

set_option maxHeartbeats 4000000 in
set_option maxRecDepth 100000 in
theorem insP_grow (hi : i < n) (hnc : n ≤ c) (hroom : c < n + 1) (hbig : (n + 1) * 8 ≤ 140737488355328) (hcl : cs.length = n) (cur : Array Value) (hg : Row5 w g 67 cur) (ht : cur.toList.take n = cs)
    (hx : Row5 w vb 67 #[x]) (h1c : ∀ v ∈ cs, v.oneCell' = true) (h1x : x.oneCell' = true) :
    Calls Tryd.prog 42 #[.slice (some ⟨g, 0, none⟩) n c, .int .i64 i, .slice (some ⟨vb, 0, none⟩) 1 1] w fun e w' =>
      e = .returned (.slice (some ⟨w.heap.size, 0, none⟩) (n + 1) (grownCap w (n + 1) c 67)) ∧
      w' = (((w.alloc (.cells ((cs.take i).toArray ++ Builtin.zeroCells (Value.pointer none).cells (n + 1 - i) ++ Builtin.zeroCells (Value.pointer none).cells (grownCap w (n + 1) c 67 - (n + 1))) 67)).drew.setCells w.heap.size i [x]).drew).setCells w.heap.size (i + 1) (cs.drop i) := by
  obtain ⟨i0, hi0, hz0, hzs, hzb⟩ := info_parts infoP
  have hbw : g < w.heap.size := hg.lt
  have hvw : vb < w.heap.size := hx.lt
  have hkk : (n : Int) + 1 - (i : Int) = ((n + 1 - i : Nat) : Int) := by omega
  have hik : i + (n + 1 - i) = n + 1 := by omega
  have hdl : (cs.drop i).length = n - i := by rw [List.length_drop, hcl]
  have hold : (Builtin.firstCells i0.size i (.slice (some ⟨g, 0, none⟩) i c)).run Tryd.prog w.drew = .ok (cs.take i).toArray w.drew := by
    rw [hzs]
    exact run_firstCells_some w.drew 1 i ⟨g, 0, none⟩ i c (cs.take i) (by rw [List.length_take]; omega) (fun j v hj => by
      rw [Addr.add_lit, Nat.zero_add]
      rw [List.getElem?_take] at hj
      split at hj
      · exact cellsD (w := w) hg ht j v hj
      · cases hj)
  have hrz : ∀ ty, (Builtin.append_ #[71, 3] ty #[.slice (some ⟨g, 0, none⟩) i c, .int .i64 ((n : Int) + 1 - (i : Int))]).run Tryd.prog w =
      .ok (.slice (some ⟨w.heap.size, 0, none⟩) (n + 1) (grownCap w (n + 1) c 67)) (w.drew.alloc (.cells ((cs.take i).toArray ++ Builtin.zeroCells (Value.pointer none).cells (n + 1 - i) ++ Builtin.zeroCells (Value.pointer none).cells (grownCap w (n + 1) c 67 - (n + 1))) 67)) := fun ty => by
    have h := Lib.run_append_grow_zeros w 71 3 ty 67 i0 _ .i64 .i64 Tryd.underlying71 Tryd.underlying3 hi0 hz0 (some ⟨g, 0, none⟩) i c (cs.take i) hold (n + 1 - i) (by omega) (by omega) (by omega) (by omega) (by rw [hzb]; omega) (by rw [hzb, hik]; exact growslice_fits hroom hbig)
    rw [hik] at h
    rw [hkk]
    exact h
  obtain ⟨G, hG⟩ : ∃ G, G = grownCap w (n + 1) c 67 := ⟨_, rfl⟩
  obtain ⟨ROW, hROW⟩ : ∃ ROW : Array Value, ROW = (cs.take i).toArray ++ Builtin.zeroCells (Value.pointer none).cells (n + 1 - i) ++ Builtin.zeroCells (Value.pointer none).cells (G - (n + 1)) := ⟨_, rfl⟩
  have hGe := grownCap_ge w (n + 1) c 67
  have hGm := grownCap_le_maxLen w (n + 1) c 67 (by unfold maxLen; omega)
  unfold maxLen at hGm
  rw [← hG] at hrz hGe hGm ⊢
  rw [← hROW] at hrz ⊢
  have hRl : n + 1 ≤ ROW.size := by
    rw [hROW]
    simp [Builtin.zeroCells, Value.cells]
    omega
  obtain ⟨W1, hW1⟩ : ∃ W1, W1 = w.drew.alloc (.cells ROW 67) := ⟨_, rfl⟩
  rw [← hW1] at hrz
  have hr1 : Row5 W1 w.heap.size 67 ROW := by rw [hW1]; exact Row5.new w.drew _ _
  have kw : Keep [] w W1 := by rw [hW1]; exact (keep_drew [] w).trans (keep_alloc [] _ _) (fun _ h => by cases h)
  have hx1 := kw.row hx (by simp)
  have hg1 := kw.row hg (by simp)
  have hcp1 : ∀ ty dc, (Builtin.copy_ #[71, 71] ty #[.slice (some ⟨w.heap.size, i, none⟩) (n + 1 - i) dc, .slice (some ⟨vb, 0, none⟩) 1 1]).run Tryd.prog W1 = .ok (goInt [x].length) (W1.setCells w.heap.size i [x]) := fun ty dc =>
    run_copy_cells W1 _ _ ty 67 w.heap.size i (n + 1 - i) dc ⟨vb, 0, none⟩ 1 1 [x] Tryd.underlying71 sizeP (by simp only [Nat.min_def, List.length_cons, List.length_nil]; split <;> omega)
      (fun j v hj => by
        rw [Addr.add_lit, Nat.zero_add, hx1.cell]
        cases j with
        | zero => exact hj
        | succ j => simp at hj)
      (fun j hj => by rw [hr1.cell, Array.getElem?_eq_getElem (by simp at hj; omega)]; rfl) (fun j hj => hr1.free _) (fun v hv => by simp at hv; subst hv; exact h1x)
  obtain ⟨W2, hW2⟩ : ∃ W2, W2 = W1.setCells w.heap.size i [x] := ⟨_, rfl⟩
  have hr2 : Row5 W2 w.heap.size 67 (putList ROW i [x]) := by rw [hW2]; exact setCells_row _ _ _ _ hr1
  have hg2 : Row5 W2 g 67 cur := by rw [hW2]; exact (setCells_keep [x] i W1).row hg1 (by simp; omega)
  have hcp2 : ∀ ty dc sc, (Builtin.copy_ #[71, 71] ty #[.slice (some ⟨w.heap.size, i + 1, none⟩) (n - i) dc, .slice (some ⟨g, i, none⟩) (n - i) sc]).run Tryd.prog W2.drew = .ok (goInt (cs.drop i).length) (W2.drew.setCells w.heap.size (i + 1) (cs.drop i)) := fun ty dc sc =>
    run_copy_cells W2.drew _ _ ty 67 w.heap.size (i + 1) (n - i) dc ⟨g, i, none⟩ (n - i) sc (cs.drop i) Tryd.underlying71 sizeP (by rw [hdl]; simp only [Nat.min_def]; split <;> omega)
      (fun j v hj => by rw [Addr.add_lit]; exact cellsD (w := W2) hg2 ht (i + j) v (by rwa [List.getElem?_drop] at hj))
      (fun j hj => by
        show (W2.cell? _).isSome = true
        rw [hr2.cell, Array.getElem?_eq_getElem (by rw [putList_size]; rw [hdl] at hj; omega)]; rfl) (fun j hj => hr2.free _) (fun v hv => h1c v (List.mem_of_mem_drop hv))
  rw [← hW2] at hcp1
  have hw1 : IntKind.i64.wrap ((i : Int) + 1) = (i : Int) + 1 := by rw [IntKind.wrap_i64]; omega
  have hb1 : (0 : Int) ≤ (i : Int) + 1 := by omega
  have hin : i ≤ n := by omega
  have htn : ((i : Int) + 1).toNat = i + 1 := by omega
  have hb3 : (i : Int) ≤ (n : Int) + 1 := by omega
  have hz2 : ¬ ((i : Int) = (n : Int)) := by omega
  have hz3 : (c : Int) < (n : Int) + 1 := by omega
  have hb5 : ¬ (G = i) := by omega
  have hb6 : ¬ (G = i + 1) := by omega
  have hb7 : ¬ (c = i) := by omega
  have hb8 : i ≤ c := by omega
  have hb9 : i ≤ G := by omega
  have hE : W2.drew.setCells w.heap.size (i + 1) (cs.drop i) = (((w.alloc (.cells ROW 67)).drew.setCells w.heap.size i [x]).drew).setCells w.heap.size (i + 1) (cs.drop i) := by rw [hW2, hW1]; rfl
  have HE := Lib.hid hE
  clear hg hx hr1 hr2 hg1 hg2 hx1 ht hRl hdl hROW hW1 hW2 hG kw hold hE hik hkk
  go_enter Tryd.func42, Tryd.ntmps42
  go_wp2_with (first | (at_builtin; refine Lib.wpList_append_run _ rfl _ _ _ _ rfl _ _ rfl rfl _ _ (hrz _) ?_) | (at_builtin; refine wpList_copy_runI _ rfl _ _ 71 71 rfl _ _ rfl rfl (hcp1 _ _) ?_))
  go_region_law (refine step_copy_runI rfl _ _ 71 71 rfl _ _ (by simp [Act.eval, Act.put]) (by simp [Act.eval, Act.put]) (hcp2 _ _ _) ?_)
  go_wp2
  go_ret
  exact ⟨rfl, HE.out⟩
end

theorem insP_any (w : World) (g cap : Nat) (cs : List Value) (h : w.ownsRow 0 67 1 (.slice (some ⟨g, 0, none⟩) cs.length cap) cs.length cs) (h1 : ∀ u ∈ cs, u.oneCell' = true) (i : Nat) (hi : i ≤ cs.length) (hbig : (cs.length + 1) * 8 ≤ 140737488355328)
    (vb : Nat) (x : Value) (h1x : x.oneCell' = true) (hx : Row5 w vb 67 #[x]) (hvb : vb ≠ g) :
    Calls Tryd.prog 42 #[.slice (some ⟨g, 0, none⟩) cs.length cap, .int .i64 i, .slice (some ⟨vb, 0, none⟩) 1 1] w fun e w' =>
      ∃ v', e = .returned v' ∧ Put w w' 67 (.slice (some ⟨g, 0, none⟩) cs.length cap) v' cs i x := by
  rcases own_cases h with ⟨e, _⟩ | ⟨g', cap', cur, e, hg, hc, hm, hs, ht⟩
  · cases e
  · cases e
    have hG := grownCap_ge w (cs.length + 1) cap 67
    have hGm := grownCap_le_maxLen w (cs.length + 1) cap 67 (by unfold maxLen; omega)
    have hc63 : cap ≤ 9223372036854775807 := by unfold maxLen at hm; omega
    rcases Nat.lt_or_ge i cs.length with hlt | hge
    · rcases Nat.lt_or_ge cap (cs.length + 1) with hroom | hroom
      · refine (insP_grow g cs.length cap i vb cs x w hlt hc hroom hbig rfl cur hg ht hx h1 h1x).mono ?_
        rintro e w' ⟨rfl, rfl⟩
        have hb := own_grow (T := 67) (w := w) (x := x) rfl hlt hG hGm (zeroCells_size (Value.pointer none) rfl (cs.length + 1 - i)) (zeroCells_size (Value.pointer none) rfl (grownCap w (cs.length + 1) cap 67 - (cs.length + 1)))
        exact ⟨_, rfl, hb.1, ⟨_, rfl, .inr (Nat.le_refl _)⟩, hb.2.mono (fun _ h => by cases h)⟩
      · refine (insP_shift g cs.length cap i vb cs x w hlt hroom hc63 hvb rfl cur hg hs ht hx h1 h1x).mono ?_
        rintro e w' ⟨rfl, rfl⟩
        have hb := own_shift (x := x) hg hs ht rfl hroom hm hi
        exact ⟨_, rfl, hb.1, ⟨_, rfl, .inl rfl⟩, hb.2⟩
    · obtain rfl : i = cs.length := by omega
      rcases Nat.lt_or_ge cap (cs.length + 1) with hroom | hroom
      · refine (insP_end_grow g cs.length cap vb cs x w hc hroom hbig rfl cur hg ht hx h1x).mono ?_
        rintro e w' ⟨rfl, rfl⟩
        have hb := own_end_grow (T := 67) (w := w) (x := x) (cs := cs) rfl hG hGm (zeroCells_size (Value.pointer none) rfl (grownCap w (cs.length + 1) cap 67 - (cs.length + 1)))
        exact ⟨_, rfl, hb.1, ⟨_, rfl, .inr (Nat.le_refl _)⟩, hb.2.mono (fun _ h => by cases h)⟩
      · refine (insP_end g cs.length cap vb x w hroom hc63 cur hg hs hx h1x).mono ?_
        rintro e w' ⟨rfl, rfl⟩
        have hb := own_end (x := x) hg hs ht rfl hroom hm
        exact ⟨_, rfl, hb.1, ⟨_, rfl, .inl rfl⟩, hb.2⟩

end Go.Proofs.YtecmppmkidefmaaDoor
