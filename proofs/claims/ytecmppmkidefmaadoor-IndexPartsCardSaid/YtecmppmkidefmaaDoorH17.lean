/-
  The walk over the law's word that its parts wake: an index of three entries.
-/
import Derived.Test.YtecmppmkidefmaaDoorH16
namespace Go.Proofs.YtecmppmkidefmaaDoor
open Go.RowKit LeafW

theorem pair_sep' {m m' : Nat} (hm : m ≤ 65535) (hm' : m' ≤ 65535) (h : m < m') : KeyW.Sep [(m / 256).toUInt8, (m % 256).toUInt8] [(m' / 256).toUInt8, (m' % 256).toUInt8] := by
  rcases Nat.lt_trichotomy (m / 256) (m' / 256) with d | d | d
  · exact KeyW.Sep.byte (by omega) (by omega) (Or.inl d)
  · exact KeyW.Sep.byte (by omega) (by omega) (Or.inr ⟨d, KeyW.Sep.byte (by omega) (by omega) (Or.inl (by omega))⟩)
  · omega
theorem sep_behind' {x y : List UInt8} (p : List UInt8) (h : KeyW.Sep x y) : KeyW.Sep (p ++ x) (p ++ y) := fun u v => by
  rw [List.append_assoc, List.append_assoc, KeyW.less_prefix]; exact h u v
/-- Entries of one value stand by their numbers; the least below, what is behind them above. -/
theorem entryB_lt {k n : Int} {f : Nat} {l : List UInt8} {m m' : Nat} (hm' : m' ≤ 65535) (h : m < m') : lt (entryB k n f l m) (entryB k n f l m') = true := by
  unfold lt
  rw [entryB_list, entryB_list]
  exact (sep_behind' _ (pair_sep' (by omega) hm' h)).less
theorem entryB_after {k n : Int} {f : Nat} {l : List UInt8} {m : Nat} (hm : m ≤ 65535) : lt (entryB k n f l m) (afterB k n f l) = true := by
  unfold lt
  rw [entryB_list, afterB_list]
  rcases Nat.lt_or_ge m 65535 with d | d
  · have h : KeyW.Sep (entryL k n f l m) (entryL k n f l 65535) := sep_behind' _ (pair_sep' hm (by omega) d)
    have := h [] [0]
    rwa [List.append_nil] at this
  · obtain rfl : m = 65535 := by omega
    have := KeyW.less_prefix (entryL k n f l 65535) [] [0]
    rw [List.append_nil] at this
    rw [this]; rfl

section
variable {a b c : ByteArray} (hab : lt a b = true) (hbc : lt b c = true)
def lf (n : Int) (bd : ByteArray) (ks : List ByteArray) : Leaf := ⟨n, bd, ks⟩
theorem wake1 (b : ByteArray) : ins (st0 2) b = (⟨1, 0, 0, 0⟩, ⟨2, 2, [⟨1, ⟨#[]⟩, [b]⟩]⟩) := by
  rw [ins_eq (s := st0 2) (pre := []) (y := ⟨1, ⟨#[]⟩, []⟩) (post := []) rfl rfl]
  simp [insK, pos, st0]
include hab in
theorem wake2 : ins ⟨2, 2, [⟨1, ⟨#[]⟩, [b]⟩]⟩ a = (⟨1, 0, 0, 0⟩, ⟨2, 2, [⟨1, ⟨#[]⟩, [a, b]⟩]⟩) := by
  have h1 : lt b a = false := lt_asymm hab
  have h2 : ¬ a = b := lt_ne hab
  rw [ins_eq (s := ⟨2, 2, [⟨1, ⟨#[]⟩, [b]⟩]⟩) (pre := []) (y := ⟨1, ⟨#[]⟩, [b]⟩) (post := []) rfl rfl]
  simp [insK, pos, h1, h2]
include hab hbc in
theorem wake3 : ins ⟨2, 2, [⟨1, ⟨#[]⟩, [a, b]⟩]⟩ c = (⟨2, 1, 2, 0⟩, ⟨2, 3, [⟨1, ⟨#[]⟩, [a, b]⟩, ⟨2, c, [c]⟩]⟩) := by
  have hac := lt_trans hab hbc
  have h2 : ¬ c = a := fun e => lt_ne hac e.symm
  have h3 : ¬ c = b := fun e => lt_ne hbc e.symm
  rw [ins_eq (s := ⟨2, 2, [⟨1, ⟨#[]⟩, [a, b]⟩]⟩) (pre := []) (y := ⟨1, ⟨#[]⟩, [a, b]⟩) (post := []) rfl rfl]
  simp [insK, pos, hac, hbc, h2, h3]
include hab hbc in
theorem wake4 {x y : ByteArray} (hx : lt x a = true) (hy : lt c y = true) : rangeK [⟨1, ⟨#[]⟩, [a, b]⟩, ⟨2, c, [c]⟩] x y = [a, b, c] ∧ rangeN [⟨1, ⟨#[]⟩, [a, b]⟩, ⟨2, c, [c]⟩] x y = [1, 2] := by
  have hac := lt_trans hab hbc
  have hay := lt_trans hac hy
  have hby := lt_trans hbc hy
  have hxc : lt x c = true := lt_trans hx hac
  have hxy : lt x y = true := lt_trans hxc hy
  have h1 : lt a x = false := lt_asymm hx
  have h2 : lt b x = false := lt_asymm (lt_trans hx hab)
  have h3 : lt c x = false := lt_asymm hxc
  have h4 : lt y c = false := lt_asymm hy
  unfold rangeK rangeN seg atL
  simp [atGo, hxy, hxc, h4, content, within, h1, h2, h3, hay, hby, hy]
end

def wk (t : Nat) : ByteArray := entryB 2 5 0 [] t
def wkS : St := ⟨2, 3, [⟨1, ⟨#[]⟩, [wk 1, wk 3]⟩, ⟨2, wk 7, [wk 7]⟩]⟩
theorem wk_e (t : Int) (h : 0 ≤ t ∧ t ≤ 65535) : entryE 2 5 0 [] t = 0 := by unfold entryE; rw [show goodV 2 5 0 [] = true from rfl]; simp [h]
theorem wk_tid (t : Nat) (h : t ≤ 65535) : tidOf (wk t) = t := (entryB_is (k := 2) (n := 5) (f := 0) (l := []) rfl (by decide) (by decide) h).2
theorem addR_wk (s : St) (t : Int) (h : 0 ≤ t ∧ t ≤ 65535) : addR s 2 5 0 [] t = ins s (wk t.toNat) := by unfold addR; rw [if_pos (wk_e t h)]; rfl

theorem add_at (w : World) (x : Nat) (F : List Nat) (s : St) (h : IdxAt w x F s) (hnl : s.l.length < 4096) (hnx : s.next < 4096) (t : Int) (ht : 0 ≤ t ∧ t ≤ 65535) (hM : MaxAt w) (a1 a2 a3 a4 : Int) (s' : St) (hr : ins s (wk t.toNat) = (⟨a1, a2, a3, a4⟩, s')) :
    Calls Tryd.prog 10 #[.pointer (some ⟨x, 0, none⟩), V 2 5 0 ⟨#[]⟩, .int .i64 t] w fun e w' => e = .returned (.tuple #[.int .i64 a1, .agg #[.int .i64 a2, .int .i64 a3], .int .i64 a4]) ∧ IdxTo w x F s' w' := by
  have := add_any w x F s h hnl hnx 2 5 0 ⟨#[]⟩ t (by decide) (by decide) hM
  rw [show (⟨#[]⟩ : ByteArray).toList = [] from ByteArray.toList_mk [], addR_wk s t ht, hr] at this
  exact this

/-- What stands at each step: the index, and a value's box, all of the call's own. -/
structure Wk (w0 w : World) (x vb : Nat) (F : List Nat) (s : St) (cs : Array Value) : Prop where
  idx : IdxAt w x F s
  v : Row5 w vb 33 cs
  lo : ∀ b ∈ F, w0.heap.size ≤ b
  vb0 : w0.heap.size ≤ vb
  vF : vb ∉ F
  below : Below w0.heap.size w0 w
  max0 : MaxAt w0
variable {w0 w w' : World} {x vb : Nat} {F : List Nat} {s s' : St} {cs : Array Value}
theorem Wk.max (h : Wk w0 w x vb F s cs) : MaxAt w := h.max0.below h.below
theorem Wk.call (h : Wk w0 w x vb F s cs) (hb : Below w.heap.size w w') : Wk w0 w' x vb F s cs :=
  ⟨h.idx.fresh hb, h.v.below hb h.v.lt, h.lo, h.vb0, h.vF, h.below.trans (hb.mono h.below.size), h.max0⟩
theorem Wk.add (h : Wk w0 w x vb F s cs) (ht : IdxTo w x F s' w') : ∃ F', Wk w0 w' x vb F' s' cs := by
  obtain ⟨F', hi, hs, hk⟩ := ht
  have := h.v.lt
  refine ⟨F', hi, hk.row h.v h.vF, fun b hb => ?_, h.vb0, fun c => ?_, h.below.trans (hk.below h.below.size h.lo), h.max0⟩
  · rcases hs b hb with e | e
    · exact h.lo b e
    · exact Nat.le_trans h.below.size e
  · rcases hs vb c with e | e
    · exact h.vF e
    · omega

theorem ints_same (w : World) (v u : Value) (xs : List Int) (hv : w.ownsRow 0 3 1 v xs.length (xs.map (.int .i64))) (hu : w.ownsRow 0 3 1 u xs.length (xs.map (.int .i64))) (hl : xs.length < 300000) :
    Calls Tryd.prog 12 #[v, u] w fun e w' => e = .returned (.bool true) ∧ Below w.heap.size w w' := by
  have := ints_any w v u xs xs hv hu hl hl
  rw [decide_eq_true rfl] at this
  exact this
theorem own_below {w w' : World} {B : Nat} {T : TypeId} {z : Nat} {v : Value} {n : Nat} {xs : List Value} (h : w.ownsRow B T z v n xs) (hb : Below w.heap.size w w') : w'.ownsRow B T z v n xs := (Keep.of_below hb []).own h (fun _ _ c => by cases c)

set_option maxHeartbeats 8000000 in
set_option maxRecDepth 100000 in
/-- The law's own test of its parts: it holds. -/
theorem wakes_any (w : World) (hM : MaxAt w) :
    Calls Tryd.prog 8 #[] w fun e w' => e = .returned (.bool true) ∧ Below w.heap.size w w' := by
  have HM := Lib.hid hM
  have h13 : lt (wk 1) (wk 3) = true := entryB_lt (by omega) (by omega)
  have h37 : lt (wk 3) (wk 7) = true := entryB_lt (by omega) (by omega)
  have H1 := Lib.hid (wake1 (wk 3))
  have H2 := Lib.hid (wake2 h13)
  have H3 := Lib.hid (wake3 h13 h37)
  have h4 := wake4 h13 h37 (x := entryB 2 5 0 [] 0) (y := afterB 2 5 0 []) (entryB_lt (by omega) (by omega)) (entryB_after (by omega))
  have H4 := Lib.hid (show (rangeK wkS.l (entryB 2 5 0 [] 0) (afterB 2 5 0 [])).map tidOf = [1, 3, 7] by rw [show rangeK wkS.l _ _ = _ from h4.1]; simp [wk_tid])
  have H5 := Lib.hid (show rangeN wkS.l (entryB 2 5 0 [] 0) (afterB 2 5 0 []) = [1, 2] from h4.2)
  have H6 := Lib.hid (show decide (wk 3 ∈ content wkS.l) = true from decide_eq_true (by simp [wkS, content]))
  have H7 := Lib.hid (show (content wkS.l).length = 3 from rfl)
  clear hM h13 h37 h4
  go_enter Tryd.func8, Tryd.ntmps8
  go_wp2_with (go_at_call 6; refine (idx_new 2 (by omega) (by omega) _).mono ?_; rintro e w1 ⟨x, F, rfl, hi, hlo, hx, hb⟩; have HI := Lib.hid hi; have HLO := Lib.hid hlo; have HB := Lib.hid hb; clear hi hlo hx hb)
  have hw0 : Wk w (w1.alloc (.cells #[.int .i64 2, .int .i64 5, .float .f64 0, .string ⟨#[]⟩] 33)) x w1.heap.size F (st0 2) #[.int .i64 2, .int .i64 5, .float .f64 0, .string ⟨#[]⟩] :=
    ⟨HI.out.fresh ((Below.refl _ _).alloc (Nat.le_refl _) _), Row5.new _ _ _, HLO.out, HB.out.size, fun c => Nat.lt_irrefl _ (HI.out.old _ c), HB.out.alloc HB.out.size _, HM.out⟩
  refine (add_at _ x F (st0 2) hw0.idx (by decide) (by decide) 3 (by decide) hw0.max 1 0 0 0 _ H1.out).mono ?_
  rintro e w2 ⟨rfl, ht⟩
  obtain ⟨F1, hw1⟩ := hw0.add ht
  have HW1 := Lib.hid hw1
  have c0 := hw1.v.cell 0; have c1 := hw1.v.cell 1; have c2 := hw1.v.cell 2; have c3 := hw1.v.cell 3
  clear hw0 ht hw1 HI HLO HB
  go_wp2_with fail
  refine (add_at _ x F1 _ HW1.out.idx (by decide) (by decide) 1 (by decide) HW1.out.max 1 0 0 0 _ H2.out).mono ?_
  rintro e w3 ⟨rfl, ht⟩
  obtain ⟨F2, hw2⟩ := HW1.out.add ht
  have HW2 := Lib.hid hw2
  clear c0 c1 c2 c3
  have c0 := hw2.v.cell 0; have c1 := hw2.v.cell 1; have c2 := hw2.v.cell 2; have c3 := hw2.v.cell 3
  clear ht hw2 HW1
  go_wp2_with fail
  refine (add_at _ x F2 _ HW2.out.idx (by decide) (by decide) 7 (by decide) HW2.out.max 2 1 2 0 _ H3.out).mono ?_
  rintro e w4 ⟨rfl, ht⟩
  obtain ⟨F3, hw3'⟩ := HW2.out.add ht
  have hw3 := hw3'.call (w' := w4.alloc (.cells #[.int .i64 1, .int .i64 2] 37)) ((Below.refl _ _).alloc (Nat.le_refl _) _)
  have HW3 := Lib.hid hw3
  clear c0 c1 c2 c3
  have c0 := hw3.v.cell 0; have c1 := hw3.v.cell 1; have c2 := hw3.v.cell 2; have c3 := hw3.v.cell 3
  have m0 : (w4.alloc (.cells #[.int .i64 1, .int .i64 2] 37)).cell? ⟨w4.heap.size, 0, none⟩ = some (.int .i64 1) := (Row5.new w4 37 #[.int .i64 1, .int .i64 2]).cell 0
  have m1 : (w4.alloc (.cells #[.int .i64 1, .int .i64 2] 37)).cell? ⟨w4.heap.size, 1, none⟩ = some (.int .i64 2) := (Row5.new w4 37 #[.int .i64 1, .int .i64 2]).cell 1
  have HMR := Lib.hid (Row5.new w4 37 #[.int .i64 1, .int .i64 2])
  clear ht hw3 hw3' HW2
  go_wp2_with fail
  refine (find_good _ x F3 wkS HW3.out.idx (by decide) 2 5 0 ⟨#[]⟩ (by decide) (by decide) HW3.out.max (by rw [show (⟨#[]⟩ : ByteArray).toList = [] from ByteArray.toList_mk []]; rfl) (entryB 2 5 0 [] 0) (afterB 2 5 0 []) (by rw [show (⟨#[]⟩ : ByteArray).toList = [] from ByteArray.toList_mk []]) (by rw [show (⟨#[]⟩ : ByteArray).toList = [] from ByteArray.toList_mk []])).mono ?_
  rw [H4.out, H5.out]
  rintro e w5 ⟨tv, lv, rfl, ht, hl, hb⟩
  have HT := Lib.hid (own_base ht)
  have HLV := Lib.hid (own_base hl)
  have hw5 := HW3.out.call hb
  have HW5 := Lib.hid hw5
  have hmr := HMR.out.below hb HMR.out.lt
  clear m0 m1 c0 c1 c2 c3
  have m0 := hmr.cell 0; have m1 := hmr.cell 1
  have c0 := hw5.v.cell 0; have c1 := hw5.v.cell 1; have c2 := hw5.v.cell 2; have c3 := hw5.v.cell 3
  clear ht hl hb hw5 hmr HW3
  go_wp2_with fail
  refine (ints_same _ tv (.slice (some ⟨w5.heap.size, 0, none⟩) 3 3) [1, 3, 7] (HT.out.alloc _) (own_mk (Row5.new w5 _ _) (Nat.le_refl _) (by unfold maxLen; omega) rfl rfl) (by decide)).mono ?_
  rintro e w6 ⟨rfl, hb⟩
  have hb6 : Below w5.heap.size w5 w6 := ((Below.refl _ _).alloc (Nat.le_refl _) _).trans (hb.mono (by rw [World.size_alloc]; omega))
  have HW6 := Lib.hid (HW5.out.call hb6)
  have HL6 := Lib.hid (own_below HLV.out hb6)
  clear hb hb6 m0 m1 c0 c1 c2 c3 HT HLV HW5
  go_wp2_with fail
  refine (ints_same _ lv (.slice (some ⟨w6.heap.size, 0, none⟩) 2 2) [1, 2] (HL6.out.alloc _) (own_mk (Row5.new w6 _ _) (Nat.le_refl _) (by unfold maxLen; omega) rfl rfl) (by decide)).mono ?_
  rintro e w7 ⟨rfl, hb⟩
  have hw7 := HW6.out.call (((Below.refl _ _).alloc (Nat.le_refl _) _).trans (hb.mono (by rw [World.size_alloc]; omega)))
  have HW7 := Lib.hid hw7
  have c0 := hw7.v.cell 0; have c1 := hw7.v.cell 1; have c2 := hw7.v.cell 2; have c3 := hw7.v.cell 3
  clear hb hw7 HW6 HL6
  go_wp2_with fail
  refine (ihas_good _ x F3 wkS HW7.out.idx (by decide) 2 5 0 ⟨#[]⟩ 3 (by decide) (by decide) HW7.out.max (by rw [show (⟨#[]⟩ : ByteArray).toList = [] from ByteArray.toList_mk []]; exact wk_e 3 (by decide)) (wk 3) (by rw [show (⟨#[]⟩ : ByteArray).toList = [] from ByteArray.toList_mk []]; rfl) true H6.out).mono ?_
  rintro e w8 ⟨rfl, hb⟩
  have HW8 := Lib.hid (HW7.out.call hb)
  clear hb c0 c1 c2 c3 HW7
  go_wp2_with fail
  refine (ilen_any _ x F3 wkS HW8.out.idx (by decide) 3 H7.out).mono ?_
  rintro e w9 ⟨rfl, rfl⟩
  go_wp2
  go_ret
  exact ⟨rfl, HW8.out.below⟩

end Go.Proofs.YtecmppmkidefmaaDoor
