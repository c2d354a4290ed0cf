/-
  The walks over what an index finds by a value, whether it has an entry, and how many.
-/
import Derived.Test.YtecmppmkidefmaaDoorH15
namespace Go.Proofs.YtecmppmkidefmaaDoor
open Go.RowKit LeafW

/-- What is above all keys of a value's entries. -/
def afterB (k n : Int) (f : Nat) (l : List UInt8) : ByteArray := ⟨(entryL k n f l 65535 ++ [0]).toArray⟩
theorem afterB_list (k n : Int) (f : Nat) (l : List UInt8) : (afterB k n f l).toList = entryL k n f l 65535 ++ [0] := ByteArray.toList_mk _
theorem afterB_ne (k n : Int) (f : Nat) (l : List UInt8) : (afterB k n f l).toList.isEmpty = false := by
  rw [afterB_list]; simp
theorem entryB_ne (k n : Int) (f : Nat) (l : List UInt8) (t : Nat) : (entryB k n f l t).toList.isEmpty = false := by
  rw [entryB_list]; unfold entryL; simp

theorem least_ok {k n : Int} {f : Nat} {t : ByteArray} (h : goodV k n f t.toList = true) (hn : -9223372036854775808 ≤ n ∧ n ≤ 9223372036854775807) (hf : f < 18446744073709551616) (w : World) (hM : MaxAt w) (A : ByteArray) (hA : entryB k n f t.toList 0 = A) :
    Calls Tryd.prog 25 #[V k n f t] w fun e w' => e = .returned (.tuple #[.string A, .int .i64 0]) ∧ Below w.heap.size w w' := by
  have := least_any k n f t hn hf w hM
  unfold entryK entryE at this
  rw [h] at this
  rw [← hA]; exact this
theorem after_ok {k n : Int} {f : Nat} {t : ByteArray} (h : goodV k n f t.toList = true) (hn : -9223372036854775808 ≤ n ∧ n ≤ 9223372036854775807) (hf : f < 18446744073709551616) (w : World) (hM : MaxAt w) (A : ByteArray) (hA : afterB k n f t.toList = A) :
    Calls Tryd.prog 27 #[V k n f t] w fun e w' => e = .returned (.tuple #[.string A, .int .i64 0]) ∧ Below w.heap.size w w' := by
  have := after_any k n f t hn hf w hM
  unfold afterK ofE at this
  rw [h] at this
  rw [← hA]; exact this
theorem least_bad {k n : Int} {f : Nat} {t : ByteArray} (h : goodV k n f t.toList = false) (hn : -9223372036854775808 ≤ n ∧ n ≤ 9223372036854775807) (hf : f < 18446744073709551616) (w : World) (hM : MaxAt w) :
    Calls Tryd.prog 25 #[V k n f t] w fun e w' => e = .returned (.tuple #[.string ⟨#[]⟩, .int .i64 11]) ∧ Below w.heap.size w w' := by
  have := least_any k n f t hn hf w hM
  unfold entryK entryE at this
  rw [h] at this
  exact this
theorem after_bad {k n : Int} {f : Nat} {t : ByteArray} (h : goodV k n f t.toList = false) (hn : -9223372036854775808 ≤ n ∧ n ≤ 9223372036854775807) (hf : f < 18446744073709551616) (w : World) (hM : MaxAt w) :
    Calls Tryd.prog 27 #[V k n f t] w fun e w' => e = .returned (.tuple #[.string ⟨#[]⟩, .int .i64 11]) ∧ Below w.heap.size w w' := by
  have := after_any k n f t hn hf w hM
  unfold afterK ofE at this
  rw [h] at this
  exact this

/-- What is found: entries' numbers and leaves, each in a slice of the call's own. -/
def Gives (w : World) (ts ls : List Int) (e : Ending) (w' : World) : Prop := ∃ tv lv, e = .returned (.tuple #[tv, lv]) ∧
  w'.ownsRow w.heap.size 3 1 tv ts.length (ts.map (.int .i64)) ∧ w'.ownsRow w.heap.size 3 1 lv ls.length (ls.map (.int .i64)) ∧ Below w.heap.size w w'
theorem Gives.sub {w w1 w' : World} {ts ls : List Int} {e : Ending} (h : Gives w1 ts ls e w') (hb : Below w.heap.size w w1) : Gives w ts ls e w' := by
  obtain ⟨tv, lv, he, h1, h2, h3⟩ := h
  have := hb.size
  exact ⟨tv, lv, he, own_sub h1 hb.size, own_sub h2 hb.size, hb.trans (h3.mono hb.size)⟩
theorem gives_none {w w' : World} (hb : Below w.heap.size w w') : Gives w [] [] (.returned (.tuple #[.slice none 0 0, .slice none 0 0])) w' :=
  ⟨_, _, rfl, World.ownsRow_nil _ _ _ _, World.ownsRow_nil _ _ _ _, hb⟩

theorem btw_gives (w : World) (x : Nat) (F : List Nat) (s : St) (h : IdxAt w x F s) (hn : s.l.length < 4096) (a b : ByteArray) (hne : b.toList.isEmpty = false) :
    Calls Tryd.prog 26 #[.pointer (some ⟨x, 0, none⟩), .string a, .string b] w (Gives w ((rangeK s.l a b).map tidOf) (rangeN s.l a b)) := by
  obtain ⟨p, sv, ls, hx, hl, hF⟩ := h.ex
  refine (between_any w x p sv ls s hx hl h.ok hn h.ents a b hne).mono ?_
  rintro e w' ⟨tv, lv, he, h1, h2, h3⟩
  exact ⟨tv, lv, he, by rw [List.length_map]; exact h1, h2, h3⟩

set_option maxHeartbeats 4000000 in
set_option maxRecDepth 100000 in
/-- Of a value that is none: nothing. -/
theorem find_bad0 (w : World) (px : Option Addr) (k n : Int) (f : Nat) (t : ByteArray) (hn : -9223372036854775808 ≤ n ∧ n ≤ 9223372036854775807) (hf : f < 18446744073709551616) (hM : MaxAt w) (hg : goodV k n f t.toList = false) :
    Calls Tryd.prog 13 #[.pointer px, V k n f t] w fun e w' => e = .returned (.tuple #[.slice none 0 0, .slice none 0 0]) ∧ Below w.heap.size w w' := by
  have hr := Row5.new w 33 #[.int .i64 k, .int .i64 n, .float .f64 f, .string t]
  have hb0 : Below w.heap.size w (w.alloc (.cells #[.int .i64 k, .int .i64 n, .float .f64 f, .string t] 33)) := (Below.refl _ _).alloc (Nat.le_refl _) _
  have HB := Lib.hid hb0
  have HR := Lib.hid hr
  have HM := Lib.hid (hM.below hb0)
  have HN := Lib.hid hn
  have HF := Lib.hid hf
  have HG := Lib.hid hg
  have c0 := hr.cell 0; have c1 := hr.cell 1; have c2 := hr.cell 2; have c3 := hr.cell 3
  clear hr hb0 hM hn hf hg
  have hpx : (px == none) = true ∨ (px == none) = false := by cases (px == none) <;> simp
  cases px with
  | none =>
    clear hpx
    go_enter Tryd.func13, Tryd.ntmps13
    go_wp2_with (first | (go_at_call 25; refine (least_bad HG.out HN.out HF.out _ HM.out).mono ?_; rintro e w1 ⟨rfl, hb⟩; have HM1 := Lib.hid (HM.out.below hb); have HB1 := Lib.hid (HB.out.trans (hb.mono (by rw [World.size_alloc]; omega))); have HR1 := Lib.hid (HR.out.below hb HR.out.lt); clear hb c0 c1 c2 c3; have c0 := HR1.out.cell 0; have c1 := HR1.out.cell 1; have c2 := HR1.out.cell 2; have c3 := HR1.out.cell 3) | (go_at_call 27; refine (after_bad HG.out HN.out HF.out _ HM1.out).mono ?_; rintro e w2 ⟨rfl, hb⟩; have HB2 := Lib.hid (HB1.out.trans (hb.mono HB1.out.size)); clear hb c0 c1 c2 c3))
    go_ret2
    exact ⟨rfl, HB2.out⟩
  | some a =>
    clear hpx
    go_enter Tryd.func13, Tryd.ntmps13
    go_wp2_with (first | (go_at_call 25; refine (least_bad HG.out HN.out HF.out _ HM.out).mono ?_; rintro e w1 ⟨rfl, hb⟩; have HM1 := Lib.hid (HM.out.below hb); have HB1 := Lib.hid (HB.out.trans (hb.mono (by rw [World.size_alloc]; omega))); have HR1 := Lib.hid (HR.out.below hb HR.out.lt); clear hb c0 c1 c2 c3; have c0 := HR1.out.cell 0; have c1 := HR1.out.cell 1; have c2 := HR1.out.cell 2; have c3 := HR1.out.cell 3) | (go_at_call 27; refine (after_bad HG.out HN.out HF.out _ HM1.out).mono ?_; rintro e w2 ⟨rfl, hb⟩; have HB2 := Lib.hid (HB1.out.trans (hb.mono HB1.out.size)); clear hb c0 c1 c2 c3))
    go_ret2
    exact ⟨rfl, HB2.out⟩

set_option maxHeartbeats 4000000 in
set_option maxRecDepth 100000 in
theorem find_nil0 (w : World) (k n : Int) (f : Nat) (t : ByteArray) (hn : -9223372036854775808 ≤ n ∧ n ≤ 9223372036854775807) (hf : f < 18446744073709551616) (hM : MaxAt w) (hg : goodV k n f t.toList = true) :
    Calls Tryd.prog 13 #[.pointer none, V k n f t] w fun e w' => e = .returned (.tuple #[.slice none 0 0, .slice none 0 0]) ∧ Below w.heap.size w w' := by
  have hr := Row5.new w 33 #[.int .i64 k, .int .i64 n, .float .f64 f, .string t]
  have hb0 : Below w.heap.size w (w.alloc (.cells #[.int .i64 k, .int .i64 n, .float .f64 f, .string t] 33)) := (Below.refl _ _).alloc (Nat.le_refl _) _
  have HB := Lib.hid hb0
  have HR := Lib.hid hr
  have HM := Lib.hid (hM.below hb0)
  have HN := Lib.hid hn
  have HF := Lib.hid hf
  have HG := Lib.hid hg
  have c0 := hr.cell 0; have c1 := hr.cell 1; have c2 := hr.cell 2; have c3 := hr.cell 3
  clear hr hb0 hM hn hf hg
  obtain ⟨A, hA⟩ : ∃ A, entryB k n f t.toList 0 = A := ⟨_, rfl⟩
  obtain ⟨B, hB⟩ : ∃ B, afterB k n f t.toList = B := ⟨_, rfl⟩
  have HA := Lib.hid hA
  have HBB := Lib.hid hB
  clear hA hB
  go_enter Tryd.func13, Tryd.ntmps13
  go_wp2_with (first | (go_at_call 25; refine (least_ok HG.out HN.out HF.out _ HM.out A HA.out).mono ?_; rintro e w1 ⟨rfl, hb⟩; have HM1 := Lib.hid (HM.out.below hb); have HB1 := Lib.hid (HB.out.trans (hb.mono (by rw [World.size_alloc]; omega))); have HR1 := Lib.hid (HR.out.below hb HR.out.lt); clear hb c0 c1 c2 c3; have c0 := HR1.out.cell 0; have c1 := HR1.out.cell 1; have c2 := HR1.out.cell 2; have c3 := HR1.out.cell 3) | (go_at_call 27; refine (after_ok HG.out HN.out HF.out _ HM1.out B HBB.out).mono ?_; rintro e w2 ⟨rfl, hb⟩; have HB2 := Lib.hid (HB1.out.trans (hb.mono HB1.out.size)); clear hb c0 c1 c2 c3))
  go_ret2
  exact ⟨rfl, HB2.out⟩

theorem find_bad (w : World) (px : Option Addr) (k n : Int) (f : Nat) (t : ByteArray) (hn : -9223372036854775808 ≤ n ∧ n ≤ 9223372036854775807) (hf : f < 18446744073709551616) (hM : MaxAt w) (hg : goodV k n f t.toList = false) :
    Calls Tryd.prog 13 #[.pointer px, V k n f t] w (Gives w [] []) := (find_bad0 w px k n f t hn hf hM hg).mono (by rintro e w' ⟨rfl, hb⟩; exact gives_none hb)
theorem find_none (w : World) (k n : Int) (f : Nat) (t : ByteArray) (hn : -9223372036854775808 ≤ n ∧ n ≤ 9223372036854775807) (hf : f < 18446744073709551616) (hM : MaxAt w) :
    Calls Tryd.prog 13 #[.pointer none, V k n f t] w fun e w' => e = .returned (.tuple #[.slice none 0 0, .slice none 0 0]) ∧ Below w.heap.size w w' := by
  cases hg : goodV k n f t.toList
  · exact find_bad0 w none k n f t hn hf hM hg
  · exact find_nil0 w k n f t hn hf hM hg

set_option maxHeartbeats 4000000 in
set_option maxRecDepth 100000 in
theorem find_good (w : World) (x : Nat) (F : List Nat) (s : St) (h : IdxAt w x F s) (hnl : s.l.length < 4096) (k n : Int) (f : Nat) (t : ByteArray) (hn : -9223372036854775808 ≤ n ∧ n ≤ 9223372036854775807) (hf : f < 18446744073709551616) (hM : MaxAt w) (hg : goodV k n f t.toList = true)
    (A B : ByteArray) (hA : entryB k n f t.toList 0 = A) (hB : afterB k n f t.toList = B) :
    Calls Tryd.prog 13 #[.pointer (some ⟨x, 0, none⟩), V k n f t] w (Gives w ((rangeK s.l A B).map tidOf) (rangeN s.l A B)) := by
  have hr := Row5.new w 33 #[.int .i64 k, .int .i64 n, .float .f64 f, .string t]
  have hb0 : Below w.heap.size w (w.alloc (.cells #[.int .i64 k, .int .i64 n, .float .f64 f, .string t] 33)) := (Below.refl _ _).alloc (Nat.le_refl _) _
  have HBE := Lib.hid (show B.toList.isEmpty = false by rw [← hB]; exact afterB_ne _ _ _ _)
  have HB := Lib.hid hb0
  have HR := Lib.hid hr
  have HM := Lib.hid (hM.below hb0)
  have HN := Lib.hid hn
  have HF := Lib.hid hf
  have HG := Lib.hid hg
  have HI := Lib.hid h
  have HA := Lib.hid hA
  have HBB := Lib.hid hB
  have c0 := hr.cell 0; have c1 := hr.cell 1; have c2 := hr.cell 2; have c3 := hr.cell 3
  clear hr hb0 hM hn hf hg hA hB h
  go_enter Tryd.func13, Tryd.ntmps13
  go_wp2_with (first | (go_at_call 25; refine (least_ok HG.out HN.out HF.out _ HM.out A HA.out).mono ?_; rintro e w1 ⟨rfl, hb⟩; have HM1 := Lib.hid (HM.out.below hb); have HB1 := Lib.hid (HB.out.trans (hb.mono (by rw [World.size_alloc]; omega))); have HR1 := Lib.hid (HR.out.below hb HR.out.lt); clear hb c0 c1 c2 c3; have c0 := HR1.out.cell 0; have c1 := HR1.out.cell 1; have c2 := HR1.out.cell 2; have c3 := HR1.out.cell 3) | (go_at_call 27; refine (after_ok HG.out HN.out HF.out _ HM1.out B HBB.out).mono ?_; rintro e w2 ⟨rfl, hb⟩; have HB2 := Lib.hid (HB1.out.trans (hb.mono HB1.out.size)); clear hb c0 c1 c2 c3) | (go_at_call 26; refine (btw_gives _ x F s (HI.out.fresh HB2.out) hnl A B HBE.out).mono ?_; intro e w3 hgv; obtain ⟨tv, lv, rfl, h1, h2, h3⟩ := hgv.sub HB2.out; have H1 := Lib.hid h1; have H2 := Lib.hid h2; have H3 := Lib.hid h3; clear h1 h2 h3 hgv))
  go_ret2
  exact ⟨tv, lv, rfl, H1.out, H2.out, H3.out⟩

set_option maxHeartbeats 4000000 in
set_option maxRecDepth 100000 in
theorem ihas_good (w : World) (x : Nat) (F : List Nat) (s : St) (h : IdxAt w x F s) (hnl : s.l.length < 4096) (k n : Int) (f : Nat) (t : ByteArray) (tid : Int) (hn : -9223372036854775808 ≤ n ∧ n ≤ 9223372036854775807) (hf : f < 18446744073709551616) (hM : MaxAt w)
    (hE : entryE k n f t.toList tid = 0) (kb : ByteArray) (hk : entryB k n f t.toList tid.toNat = kb) (b : Bool) (hb : decide (kb ∈ content s.l) = b) :
    Calls Tryd.prog 19 #[.pointer (some ⟨x, 0, none⟩), V k n f t, .int .i64 tid] w fun e w' => e = .returned (.bool b) ∧ Below w.heap.size w w' := by
  have hr := Row5.new w 33 #[.int .i64 k, .int .i64 n, .float .f64 f, .string t]
  have hb0 : Below w.heap.size w (w.alloc (.cells #[.int .i64 k, .int .i64 n, .float .f64 f, .string t] 33)) := (Below.refl _ _).alloc (Nat.le_refl _) _
  obtain ⟨p, sv, ls, hx, hl, hF⟩ := h.ex
  have HB := Lib.hid hb0
  have HR := Lib.hid hr
  have HM := Lib.hid (hM.below hb0)
  have HN := Lib.hid hn
  have HF := Lib.hid hf
  have HE := Lib.hid hE
  have HK := Lib.hid hk
  have HX := Lib.hid hx
  have HL := Lib.hid hl
  have HO := Lib.hid h.ok
  have HBB := Lib.hid hb
  have c0 := hr.cell 0; have c1 := hr.cell 1; have c2 := hr.cell 2; have c3 := hr.cell 3
  clear hr hb0 hM hn hf hE hk h hx hl hF hb
  go_enter Tryd.func19, Tryd.ntmps19
  go_wp2_with (first | (go_at_call 22; refine (entry_ok HE.out HN.out HF.out _ HM.out kb HK.out).mono ?_; rintro e w1 ⟨rfl, hb⟩; have HB1 := Lib.hid (HB.out.trans (hb.mono (by rw [World.size_alloc]; omega))); have x0 := (HX.out.below HB1.out HX.out.lt).cell 0; clear hb c0 c1 c2 c3) | (go_at_call 32; refine (has_any w1 p sv ls s (HL.out.fresh HB1.out) HO.out hnl kb).mono ?_; rintro e w2 ⟨rfl, hb⟩; rw [HBB.out]; have HB2 := Lib.hid (HB1.out.trans (hb.mono HB1.out.size)); clear hb x0))
  go_ret
  exact ⟨rfl, HB2.out⟩

set_option maxHeartbeats 4000000 in
set_option maxRecDepth 100000 in
theorem ihas_bad (w : World) (px : Option Addr) (k n : Int) (f : Nat) (t : ByteArray) (tid : Int) (hn : -9223372036854775808 ≤ n ∧ n ≤ 9223372036854775807) (hf : f < 18446744073709551616) (hM : MaxAt w)
    (E : Int) (hE : entryE k n f t.toList tid = E) (hor : px = none ∨ (E == 0) = false) :
    Calls Tryd.prog 19 #[.pointer px, V k n f t, .int .i64 tid] w fun e w' => e = .returned (.bool false) ∧ Below w.heap.size w w' := by
  have hr := Row5.new w 33 #[.int .i64 k, .int .i64 n, .float .f64 f, .string t]
  have hb0 : Below w.heap.size w (w.alloc (.cells #[.int .i64 k, .int .i64 n, .float .f64 f, .string t] 33)) := (Below.refl _ _).alloc (Nat.le_refl _) _
  have HB := Lib.hid hb0
  have HR := Lib.hid hr
  have HM := Lib.hid (hM.below hb0)
  have HN := Lib.hid hn
  have HF := Lib.hid hf
  have HE := Lib.hid hE
  obtain ⟨S, hS⟩ : ∃ S, (⟨(entryK k n f t.toList tid).toArray⟩ : ByteArray) = S := ⟨_, rfl⟩
  have HS := Lib.hid hS
  have c0 := hr.cell 0; have c1 := hr.cell 1; have c2 := hr.cell 2; have c3 := hr.cell 3
  clear hr hb0 hM hn hf hE hS
  cases px with
  | none =>
    clear hor
    go_enter Tryd.func19, Tryd.ntmps19
    go_wp2_with (go_at_call 22; refine (entry_bad HN.out HF.out _ HM.out E HE.out S HS.out).mono ?_; rintro e w1 ⟨rfl, hb⟩; have HB1 := Lib.hid (HB.out.trans (hb.mono (by rw [World.size_alloc]; omega))); clear hb c0 c1 c2 c3)
    go_ret
    exact ⟨rfl, HB1.out⟩
  | some a =>
    have hE0 : (E == 0) = false := by
      rcases hor with h | h
      · cases h
      · exact h
    have hE2 : ¬ E = 0 := by simpa using hE0
    clear hor
    go_enter Tryd.func19, Tryd.ntmps19
    go_wp2_with (go_at_call 22; refine (entry_bad HN.out HF.out _ HM.out E HE.out S HS.out).mono ?_; rintro e w1 ⟨rfl, hb⟩; have HB1 := Lib.hid (HB.out.trans (hb.mono (by rw [World.size_alloc]; omega))); clear hb c0 c1 c2 c3)
    go_ret
    exact ⟨rfl, HB1.out⟩

set_option maxHeartbeats 2000000 in
set_option maxRecDepth 100000 in
theorem ilen_any (w : World) (x : Nat) (F : List Nat) (s : St) (h : IdxAt w x F s) (hnl : s.l.length < 4096) (L : Nat) (hL : (content s.l).length = L) :
    Calls Tryd.prog 17 #[.pointer (some ⟨x, 0, none⟩)] w fun e w' => e = .returned (.int .i64 L) ∧ w = w' := by
  obtain ⟨p, sv, ls, hx, hl, hF⟩ := h.ex
  have x0 := hx.cell 0
  have HL := Lib.hid hl
  have HO := Lib.hid h.ok
  have HLL := Lib.hid hL
  clear hx hl h hL hF
  go_enter Tryd.func17, Tryd.ntmps17
  go_wp2_with (go_at_call 31; refine (len_any w p sv ls s HL.out HO.out hnl).mono ?_; rintro e w1 ⟨rfl, rfl⟩; rw [HLL.out])
  go_ret
  exact ⟨rfl, rfl⟩

end Go.Proofs.YtecmppmkidefmaaDoor
