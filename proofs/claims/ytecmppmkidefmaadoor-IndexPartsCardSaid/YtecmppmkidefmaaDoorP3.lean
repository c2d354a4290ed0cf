/-
  The walk over IndexParts.
-/
import Derived.Test.YtecmppmkidefmaaDoorPA
namespace Go.Proofs.YtecmppmkidefmaaDoor
open Go.RowKit LeafW

theorem addR_few {s : St} (h : Ok s) (k n : Int) (f : Nat) (l : List UInt8) (t : Int) : (addR s k n f l t).2.l.length ≤ s.l.length + 1 ∧ (addR s k n f l t).2.next ≤ s.next + 1 := by
  unfold addR
  split
  · exact (ins_few h _).2
  · exact ⟨Nat.le_succ _, Nat.le_succ _⟩
theorem dropR_few {s : St} (h : Ok s) (k n : Int) (f : Nat) (l : List UInt8) (t : Int) : (dropR s k n f l t).2.l.length ≤ s.l.length ∧ (dropR s k n f l t).2.next = s.next := by
  unfold dropR
  split
  · exact (rem_few h _).2
  · exact ⟨Nat.le_refl _, rfl⟩

/-- What stands at each step: the index, and a box, all of the call's own. -/
structure Wq (w0 w : World) (x vb : Nat) (T : TypeId) (F : List Nat) (s : St) (cs : Array Value) : Prop where
  idx : IdxAt w x F s
  v : Row5 w vb T cs
  lo : ∀ b ∈ F, w0.heap.size ≤ b
  vb0 : w0.heap.size ≤ vb
  vF : vb ∉ F
  below : Below w0.heap.size w0 w
  max0 : MaxAt w0
section
variable {w0 w w' : World} {x vb : Nat} {T : TypeId} {F : List Nat} {s s' : St} {cs : Array Value}
theorem Wq.max (h : Wq w0 w x vb T F s cs) : MaxAt w := h.max0.below h.below
theorem Wq.call (h : Wq w0 w x vb T F s cs) (hb : Below w.heap.size w w') : Wq w0 w' x vb T F s cs :=
  ⟨h.idx.fresh hb, h.v.below hb h.v.lt, h.lo, h.vb0, h.vF, h.below.trans (hb.mono h.below.size), h.max0⟩
theorem Wq.add (h : Wq w0 w x vb T F s cs) (ht : IdxTo w x F s' w') : ∃ F', Wq w0 w' x vb T F' s' cs := by
  obtain ⟨F', hi, hs, hk⟩ := ht
  have := h.v.lt
  refine ⟨F', hi, hk.row h.v h.vF, fun b hb => ?_, h.vb0, fun c => ?_, h.below.trans (hk.below h.below.size h.lo), h.max0⟩
  · rcases hs b hb with e | e
    · exact h.lo b e
    · exact Nat.le_trans h.below.size e
  · rcases hs vb c with e | e
    · exact h.vF e
    · omega
end

theorem Wq.set {w0 w w' : World} {x vb : Nat} {T : TypeId} {F : List Nat} {s : St} {cs cs' : Array Value} (h : Wq w0 w x vb T F s cs) (hk : Keep [vb] w w') (hr : Row5 w' vb T cs') (hx : x ≠ vb) : Wq w0 w' x vb T F s cs' :=
  ⟨h.idx.keep hk (fun b hb => by rw [List.mem_singleton.1 hb]; exact ⟨h.vF, fun e => hx e.symm⟩), hr, h.lo, h.vb0, h.vF, h.below.trans (hk.below h.below.size (fun b hb => by rw [List.mem_singleton.1 hb]; exact h.vb0)), h.max0⟩
theorem Wq.box {w0 w : World} {x vb : Nat} {T : TypeId} {F : List Nat} {s : St} {cs : Array Value} (h : Wq w0 w x vb T F s cs) (T' : TypeId) (cs' : Array Value) : Wq w0 (w.alloc (.cells cs' T')) x w.heap.size T' F s cs' ∧ x ≠ w.heap.size := by
  have hb : Below w.heap.size w (w.alloc (.cells cs' T')) := (Below.refl _ _).alloc (Nat.le_refl _) _
  refine ⟨⟨h.idx.fresh hb, Row5.new w _ _, h.lo, h.below.size, fun c => by have := h.idx.old _ c; omega, h.below.trans (hb.mono h.below.size), h.max0⟩, fun e => ?_⟩
  obtain ⟨p, sv, ls, hx, _, _⟩ := h.idx.ex
  have := hx.lt
  omega

def zero4 : List Value := [.int .i64 0, .int .i64 0, .float .f64 0, .string ⟨#[]⟩]
theorem info40 : (Tryd.prog.info? 40).map (·.size) = some 12 := by kernel_rfl
theorem noText : (⟨#[]⟩ : ByteArray).toList = [] := ByteArray.toList_mk []
theorem range_int (w : World) (x : Nat) (F : List Nat) (s : St) (h : IdxAt w x F s) (hnl : s.l.length < 4096) (a b : Int) (ha : -9223372036854775808 ≤ a ∧ a ≤ 9223372036854775807) (hb : -9223372036854775808 ≤ b ∧ b ≤ 9223372036854775807) (hM : MaxAt w) (ts : List Int) (ht : (rangeK s.l (intB a) (intB b)).map tidOf = ts) :
    Calls Tryd.prog 11 #[.pointer (some ⟨x, 0, none⟩), V 2 a 0 ⟨#[]⟩, V 2 b 0 ⟨#[]⟩] w (Gives w ts (rangeN s.l (intB a) (intB b))) := by
  rw [← ht]
  exact range_good w x F s h hnl 2 a 0 ⟨#[]⟩ ha (by omega) (by rw [noText]; exact int_good a) 2 b 0 ⟨#[]⟩ hb (by omega) (by rw [noText]; exact int_good b) hM _ _ (by rw [noText]; rfl) (by rw [noText]; rfl)
theorem find_int (w : World) (x : Nat) (F : List Nat) (s : St) (h : IdxAt w x F s) (hnl : s.l.length < 4096) (a : Int) (ha : -9223372036854775808 ≤ a ∧ a ≤ 9223372036854775807) (hM : MaxAt w) (ts : List Int) (ht : (rangeK s.l (intB a) (afterB 2 a 0 [])).map tidOf = ts) :
    Calls Tryd.prog 13 #[.pointer (some ⟨x, 0, none⟩), V 2 a 0 ⟨#[]⟩] w (Gives w ts (rangeN s.l (intB a) (afterB 2 a 0 []))) := by
  rw [← ht]
  exact find_good w x F s h hnl 2 a 0 ⟨#[]⟩ ha (by omega) hM (by rw [noText]; exact int_good a) _ _ (by rw [noText]; rfl) (by rw [noText])

set_option maxHeartbeats 8000000 in
set_option maxRecDepth 100000 in
theorem indexParts_any (w : World) (a : Option Addr) (c n : Nat) (xs : List StepR) (h : StepsAt w a xs) (hn : xs.length = n) (n0 n1 n2 : Int) (h0 : -128 ≤ n0 ∧ n0 ≤ 127) (h1 : -128 ≤ n1 ∧ n1 ≤ 127) (h2 : -128 ≤ n2 ∧ n2 ≤ 127) (hM : MaxAt w) :
    Calls Tryd.prog 3 #[.slice a n c, .agg #[.int .i8 n0, .int .i8 n1, .int .i8 n2]] w fun e w' => e = .returned (.bool true) ∧ Below w.heap.size w w' := by
  have HS := Lib.hid h
  have HN := Lib.hid hn
  have HM := Lib.hid hM
  have H0 := Lib.hid h0
  have H1 := Lib.hid h1
  have H2 := Lib.hid h2
  have hv := Row5.new w 24 #[.int .i8 n0, .int .i8 n1, .int .i8 n2]
  have HV := Lib.hid hv
  have HA := Lib.hid (show Below w.heap.size w (w.alloc (.cells #[.int .i8 n0, .int .i8 n1, .int .i8 n2] 24)) from (Below.refl _ _).alloc (Nat.le_refl _) _)
  clear h hn hM h0 h1 h2 hv
  go_enter Tryd.func3, Tryd.ntmps3
  go_wp2_with fail
  refine (idx_new 3 (by omega) (by omega) _).mono ?_
  rintro e w1 ⟨x, F, rfl, hi, hlo, hx, hb⟩
  have HQ := Lib.hid (show Wq w w1 x w.heap.size 24 F (st0 3) #[.int .i8 n0, .int .i8 n1, .int .i8 n2] from
    ⟨hi, HV.out.below hb HV.out.lt, fun b hb' => by have := hlo b hb'; rw [World.size_alloc] at this; omega, Nat.le_refl _, fun c => by have := hlo _ c; rw [World.size_alloc] at this; omega, HA.out.trans (hb.mono (by rw [World.size_alloc]; omega)), HM.out⟩)
  clear hi hlo hx hb HV HA
  go_wp2_with fail
  refine (fair_any _ a c n xs (HS.out.below HQ.out.below) HN.out).mono ?_
  rintro e w2 ⟨b, rfl, h150, hb⟩
  have HQ2 := Lib.hid (HQ.out.call hb)
  clear hb HQ
  cases b with
  | false =>
    clear h150
    go_wp2_with fail
    refine (wakes_any _ HQ2.out.max).mono ?_
    rintro e w3 ⟨rfl, hb⟩
    have HQ3 := Lib.hid (HQ2.out.call hb)
    clear hb
    go_wp2
    go_ret
    exact ⟨rfl, HQ3.out.below⟩
  | true =>
    have n150 := h150 rfl
    clear h150
    go_wp2
    go_loopw [7] (fun i wr => ∃ (j : Nat) (F : List Nat) (s : St), j ≤ n ∧ i = .int .i64 j ∧ Hid (Wq w wr x w.heap.size 24 F s #[.int .i8 n0, .int .i8 n1, .int .i8 n2]) ∧ s.l.length ≤ j + 1 ∧ s.next ≤ j + 2) (fun i _ => n - (intOf i).toNat)
    case atStart => exact ⟨0, F, st0 3, Nat.zero_le _, rfl, HQ2, by simp [st0], by simp [st0]⟩
    case round =>
      obtain ⟨j, F, s, hj, rfl, HQ, hl, hx⟩ := hrel
      by_cases hlt : j < n
      · obtain ⟨p, hs⟩ : ∃ p, xs[j]? = some p := ⟨_, List.getElem?_eq_getElem (by rw [HN.out]; exact hlt)⟩
        obtain ⟨g, o, rfl, h1, hok⟩ := (HS.out.below HQ.out.below).each j p hs
        have i0 : (0 : Int) ≤ (j : Int) := by omega
        have i1 : (j : Int) < (n : Int) := by omega
        have HOK := Lib.hid hok
        have c0 := h1.c0; have c1 := h1.c1; have c2 := h1.c2; have c3 := h1.c3; have c4 := h1.c4; have c5 := h1.c5
        clear hs h1 hok
        by_cases hk : p.k = 1
        · rw [hk] at c0
          go_wp2_with fail
          go_still_tail 11, (by kernel_rfl)
          have HQd := Lib.hid (HQ.out.call (Below.refl _ _).drew)
          go_wp2_with fail
          refine (drop_any _ x F s HQd.out.idx (by omega) _ _ _ _ _ HOK.out.vn HOK.out.vf HQd.out.max).mono ?_
          rintro e w3 ⟨rfl, ht⟩
          obtain ⟨F', hq⟩ := HQd.out.add ht
          have HQ' := Lib.hid hq
          have hfew := dropR_few HQ.out.idx.ok p.vk p.vn p.vf p.vs.toList p.t
          clear ht hq c0 c1 c2 c3 c4 c5
          go_wp2
          go_roundw
          case rel => exact ⟨j + 1, F', _, by omega, by go_num, HQ', by omega, by omega⟩
          case measure => simp [intOf]; omega
        · have hk1 : (p.k == 1) = false := beq_eq_false_iff_ne.2 hk
          go_wp2_with fail
          go_still_tail 11, (by kernel_rfl)
          have HQd := Lib.hid (HQ.out.call (Below.refl _ _).drew)
          go_wp2_with fail
          refine (add_any _ x F s HQd.out.idx (by omega) (by omega) _ _ _ _ _ HOK.out.vn HOK.out.vf HQd.out.max).mono ?_
          rintro e w3 ⟨rfl, ht⟩
          obtain ⟨F', hq⟩ := HQd.out.add ht
          have HQ' := Lib.hid hq
          have hfew := addR_few HQ.out.idx.ok p.vk p.vn p.vf p.vs.toList p.t
          clear ht hq c0 c1 c2 c3 c4 c5
          go_wp2
          go_roundw
          case rel => exact ⟨j + 1, F', _, by omega, by go_num, HQ', by omega, by omega⟩
          case measure => simp [intOf]; omega
      · obtain rfl : j = n := by omega
        clear HQ2
        have c0 := HQ.out.v.cell 0; have c1 := HQ.out.v.cell 1; have c2 := HQ.out.v.cell 2
        go_wp2_with fail
        go_quiet (fail)
        obtain ⟨A, hA⟩ : ∃ A, (if n2 < if n1 < n0 then n1 else n0 then n2 else if n1 < n0 then n1 else n0) = A := ⟨_, rfl⟩
        obtain ⟨C, hC⟩ : ∃ C, (if (if n0 < n1 then n1 else n0) < n2 then n2 else if n0 < n1 then n1 else n0) = C := ⟨_, rfl⟩
        rw [hA, hC]
        obtain ⟨S, hS⟩ : ∃ S, n0 + n1 + n2 = S := ⟨_, rfl⟩
        have w0 : wrap64 n0 = n0 := by have := H0.out; unfold wrap64; omega
        have w1 : wrap64 n1 = n1 := by have := H1.out; unfold wrap64; omega
        have w2 : wrap64 n2 = n2 := by have := H2.out; unfold wrap64; omega
        have w3 : wrap64 (n0 + n1) = n0 + n1 := by have := H0.out; have := H1.out; unfold wrap64; omega
        have w4 : wrap64 (n0 + n1 + n2) = n0 + n1 + n2 := by have := H0.out; have := H1.out; have := H2.out; unfold wrap64; omega
        have hAC : -128 ≤ A ∧ A ≤ S - A - C ∧ S - A - C ≤ C ∧ C ≤ 127 := by
          have := H0.out; have := H1.out; have := H2.out
          rw [← hA, ← hC, ← hS]
          split <;> split <;> split <;> split <;> omega
        have w5 : wrap64 A = A := by unfold wrap64; omega
        have w6 : wrap64 C = C := by unfold wrap64; omega
        rw [w0, w1, w2, w3, w4, w5, w6, hS]
        obtain ⟨a0, a1, a2, a3⟩ := hAC
        clear hA hC hS w0 w1 w2 w3 w4 w5 w6 c0 c1 c2
        obtain ⟨hz, hzx⟩ := (HQ.out.call (below_drewN (Below.refl _ _) nq)).box 40 #[.int .i64 0, .int .i64 0, .float .f64 0, .string ⟨#[]⟩, .int .i64 0, .int .i64 0, .float .f64 0, .string ⟨#[]⟩, .int .i64 0, .int .i64 0, .float .f64 0, .string ⟨#[]⟩]
        have HZ := Lib.hid (show Wq w ((wr.drewN nq).alloc (.cells #[.int .i64 0, .int .i64 0, .float .f64 0, .string ⟨#[]⟩, .int .i64 0, .int .i64 0, .float .f64 0, .string ⟨#[]⟩, .int .i64 0, .int .i64 0, .float .f64 0, .string ⟨#[]⟩] 40)) x wr.heap.size 40 F s #[.int .i64 0, .int .i64 0, .float .f64 0, .string ⟨#[]⟩, .int .i64 0, .int .i64 0, .float .f64 0, .string ⟨#[]⟩, .int .i64 0, .int .i64 0, .float .f64 0, .string ⟨#[]⟩] from hz)
        have HZX := Lib.hid (show x ≠ wr.heap.size from hzx)
        clear hz hzx
        go_wp2_with (refine wpList_store_keep rfl 40 (.tmp 11) (.tmp 112) rfl wr.heap.size #[.int .i64 2, .int .i64 A, .float .f64 0, .string ⟨#[]⟩, .int .i64 2, .int .i64 (S - A - C), .float .f64 0, .string ⟨#[]⟩, .int .i64 2, .int .i64 C, .float .f64 0, .string ⟨#[]⟩] rfl rfl 40 _ HZ.out.v info40 rfl (by simp [Value.oneCell']) ?_; intro W5 hr0 hk0; have HQ5 := Lib.hid (HZ.out.set hk0 hr0 HZX.out); clear hr0 hk0; have c0 := HQ5.out.v.cell 0; have c1 := HQ5.out.v.cell 1; have c2 := HQ5.out.v.cell 2; have c3 := HQ5.out.v.cell 3; have c4 := HQ5.out.v.cell 4; have c5 := HQ5.out.v.cell 5; have c6 := HQ5.out.v.cell 6; have c7 := HQ5.out.v.cell 7; have c8 := HQ5.out.v.cell 8; have c9 := HQ5.out.v.cell 9; have c10 := HQ5.out.v.cell 10; have c11 := HQ5.out.v.cell 11)
        obtain ⟨tAC, hAC⟩ : ∃ t, (rangeK s.l (intB A) (intB C)).map tidOf = t := ⟨_, rfl⟩
        obtain ⟨tAB, hAB⟩ : ∃ t, (rangeK s.l (intB A) (intB (S - A - C))).map tidOf = t := ⟨_, rfl⟩
        obtain ⟨tBC, hBC⟩ : ∃ t, (rangeK s.l (intB (S - A - C)) (intB C)).map tidOf = t := ⟨_, rfl⟩
        obtain ⟨tA, htA⟩ : ∃ t, (rangeK s.l (intB A) (afterB 2 A 0 [])).map tidOf = t := ⟨_, rfl⟩
        have HAC := Lib.hid hAC
        have HAB := Lib.hid hAB
        have HBC := Lib.hid hBC
        have HTA := Lib.hid htA
        have HEQ := Lib.hid (show tAC = tAB ++ tBC by rw [← hAC, ← hAB, ← hBC, range_parts HQ.out.idx.ok (a := A) (b := S - A - C) (c := C) (by omega) (by omega) (by omega) (by omega) (by omega), List.map_append])
        have HEQ2 := Lib.hid (show (rangeK s.l (intB A) (intB (A + 1))).map tidOf = tA by rw [← htA, range_next HQ.out.idx.ok HQ.out.idx.ents (by omega)])
        have HL1 := Lib.hid (show tAC.length ≤ 10000 by rw [← hAC, List.length_map]; have := range_few HQ.out.idx.ok (n := 151) (by omega) (intB A) (intB C); omega)
        have HL2 := Lib.hid (show tAB.length ≤ 10000 by rw [← hAB, List.length_map]; have := range_few HQ.out.idx.ok (n := 151) (by omega) (intB A) (intB (S - A - C)); omega)
        have HL3 := Lib.hid (show tBC.length ≤ 10000 by rw [← hBC, List.length_map]; have := range_few HQ.out.idx.ok (n := 151) (by omega) (intB (S - A - C)) (intB C); omega)
        have HL4 := Lib.hid (show tA.length ≤ 10000 by rw [← htA, List.length_map]; have := range_few HQ.out.idx.ok (n := 151) (by omega) (intB A) (afterB 2 A 0 []); omega)
        clear hAC hAB hBC htA HQ
        refine (range_int _ x F s HQ5.out.idx (by omega) A C (by omega) (by omega) HQ5.out.max tAC HAC.out).mono ?_
        rintro e w6 ⟨v6, l6, rfl, h6, _, hb⟩
        have HQ6 := Lib.hid (HQ5.out.call hb)
        have T6 := Lib.hid (own_base h6)
        clear c0 c1 c2 c3 c4 c5 c6 c7 c8 c9 c10 c11
        clear h6 hb HQ5
        have c0 := HQ6.out.v.cell 0; have c1 := HQ6.out.v.cell 1; have c2 := HQ6.out.v.cell 2; have c3 := HQ6.out.v.cell 3; have c4 := HQ6.out.v.cell 4; have c5 := HQ6.out.v.cell 5; have c6 := HQ6.out.v.cell 6; have c7 := HQ6.out.v.cell 7; have c8 := HQ6.out.v.cell 8; have c9 := HQ6.out.v.cell 9; have c10 := HQ6.out.v.cell 10; have c11 := HQ6.out.v.cell 11
        go_wp2_with fail
        refine (range_int _ x F s HQ6.out.idx (by omega) A (S - A - C) (by omega) (by omega) HQ6.out.max tAB HAB.out).mono ?_
        rintro e w7 ⟨v7, l7, rfl, h7, _, hb⟩
        have HQ7 := Lib.hid (HQ6.out.call hb)
        have T7 := Lib.hid (own_base h7)
        have T67 := Lib.hid (own_below T6.out hb)
        clear c0 c1 c2 c3 c4 c5 c6 c7 c8 c9 c10 c11
        clear h7 hb HQ6 T6
        have c0 := HQ7.out.v.cell 0; have c1 := HQ7.out.v.cell 1; have c2 := HQ7.out.v.cell 2; have c3 := HQ7.out.v.cell 3; have c4 := HQ7.out.v.cell 4; have c5 := HQ7.out.v.cell 5; have c6 := HQ7.out.v.cell 6; have c7 := HQ7.out.v.cell 7; have c8 := HQ7.out.v.cell 8; have c9 := HQ7.out.v.cell 9; have c10 := HQ7.out.v.cell 10; have c11 := HQ7.out.v.cell 11
        go_wp2_with fail
        refine (range_int _ x F s HQ7.out.idx (by omega) (S - A - C) C (by omega) (by omega) HQ7.out.max tBC HBC.out).mono ?_
        rintro e w8 ⟨v8, l8, rfl, h8, _, hb⟩
        have HQ8 := Lib.hid (HQ7.out.call hb)
        have T8 := Lib.hid (own_base h8)
        have T68 := Lib.hid (own_below T67.out hb)
        have T78 := Lib.hid (own_below T7.out hb)
        clear c0 c1 c2 c3 c4 c5 c6 c7 c8 c9 c10 c11
        clear h8 hb HQ7 T7 T67
        have HN0 := Lib.hid (show (w8.alloc (.cells #[] 3)).ownsRow w8.heap.size 3 1 (.slice (some ⟨w8.heap.size, 0, none⟩) 0 0) ([] : List Int).length (([] : List Int).map (.int .i64)) from own_nothing (Row5.new w8 3 #[]) (Nat.le_refl _))
        go_wp2_with (first | (at_builtin; refine append_ints rfl (.tmp 141) (.tmp 142) rfl w8.heap.size (.slice (some ⟨w8.heap.size, 0, none⟩) 0 0) v7 [] tAB rfl rfl HN0.out (T78.out.alloc _) (by decide) (by have := HL2.out; omega) (by rw [World.size_alloc]; omega) ?_; intro v9 w9 ho9 hb9; have HO9 := Lib.hid ho9; have HB9 := Lib.hid ((Below.refl w8.heap.size w8).alloc (Nat.le_refl _) _ |>.trans hb9); clear ho9 hb9) | (at_builtin; refine append_ints rfl (.tmp 143) (.tmp 144) rfl w8.heap.size v9 v8 ([] ++ tAB) tBC rfl rfl HO9.out (own_below T8.out HB9.out) (by have := HL2.out; simp; omega) (by have := HL3.out; omega) HB9.out.size ?_; intro v10 w10 ho10 hb10; have HO10 := Lib.hid ho10; have HB10 := Lib.hid (HB9.out.trans hb10); clear ho10 hb10))
        have hints := ints_same w10 v6 v10 tAC (own_below T68.out HB10.out) (by have := own_base HO10.out; rw [List.nil_append] at this; rw [HEQ.out]; exact this) (by have := HL1.out; omega)
        refine hints.mono ?_
        rintro e w11 ⟨rfl, hb⟩
        have HQ11 := Lib.hid (HQ8.out.call (HB10.out.trans (hb.mono HB10.out.size)))
        clear hb HQ8 HO9 HO10 HB9 HB10 T8 T68 T78 hints
        have c0 := HQ11.out.v.cell 0; have c1 := HQ11.out.v.cell 1; have c2 := HQ11.out.v.cell 2; have c3 := HQ11.out.v.cell 3; have c4 := HQ11.out.v.cell 4; have c5 := HQ11.out.v.cell 5; have c6 := HQ11.out.v.cell 6; have c7 := HQ11.out.v.cell 7; have c8 := HQ11.out.v.cell 8; have c9 := HQ11.out.v.cell 9; have c10 := HQ11.out.v.cell 10; have c11 := HQ11.out.v.cell 11
        go_wp2_with fail
        refine (find_int _ x F s HQ11.out.idx (by omega) A (by omega) HQ11.out.max tA HTA.out).mono ?_
        rintro e w12 ⟨v12, l12, rfl, h12, _, hb⟩
        have HQ12 := Lib.hid (HQ11.out.call hb)
        have T12 := Lib.hid (own_base h12)
        clear c0 c1 c2 c3 c4 c5 c6 c7 c8 c9 c10 c11
        clear h12 hb HQ11
        have c0 := HQ12.out.v.cell 0; have c1 := HQ12.out.v.cell 1; have c2 := HQ12.out.v.cell 2; have c3 := HQ12.out.v.cell 3; have c4 := HQ12.out.v.cell 4; have c5 := HQ12.out.v.cell 5; have c6 := HQ12.out.v.cell 6; have c7 := HQ12.out.v.cell 7; have c8 := HQ12.out.v.cell 8; have c9 := HQ12.out.v.cell 9; have c10 := HQ12.out.v.cell 10; have c11 := HQ12.out.v.cell 11
        go_wp2_with fail
        refine (range_int _ x F s HQ12.out.idx (by omega) A (A + 1) (by omega) (by omega) HQ12.out.max tA HEQ2.out).mono ?_
        rintro e w13 ⟨v13, l13, rfl, h13, _, hb⟩
        have HQ13 := Lib.hid (HQ12.out.call hb)
        have T13 := Lib.hid (own_base h13)
        have T123 := Lib.hid (own_below T12.out hb)
        clear c0 c1 c2 c3 c4 c5 c6 c7 c8 c9 c10 c11
        clear h13 hb HQ12 T12
        go_wp2_with fail
        refine (ints_same w13 v12 v13 tA T123.out T13.out (by have := HL4.out; omega)).mono ?_
        rintro e w14 ⟨rfl, hb⟩
        have HQ14 := Lib.hid (HQ13.out.call hb)
        clear hb HQ13 T13 T123
        go_wp2_with fail
        refine (wakes_any _ HQ14.out.max).mono ?_
        rintro e w15 ⟨rfl, hb⟩
        have HQ15 := Lib.hid (HQ14.out.call hb)
        clear hb HQ14
        go_wp2
        go_ret
        exact ⟨rfl, HQ15.out.below⟩

end Go.Proofs.YtecmppmkidefmaaDoor
