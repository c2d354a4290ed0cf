/-
  The walk over an index's entry fewer.
-/
import Derived.Test.YtecmppmkidefmaaDoorH18
namespace Go.Proofs.YtecmppmkidefmaaDoor
open Go.RowKit LeafW

theorem remove_at (w : World) (p : Nat) (sv : Value) (ls : List (Nat × Value)) (s : St) (hl : LvsAt w p sv ls s) (ho : Ok s) (hn : s.l.length < 4096) (k : ByteArray) (a1 a2 a3 a4 : Int) (s' : St) (hr : rem s k = (⟨a1, a2, a3, a4⟩, s')) :
    Calls Tryd.prog 23 #[.pointer (some ⟨p, 0, none⟩), .string k] w fun e w' => e = .returned (.tuple #[.int .i64 a1, .agg #[.int .i64 a2, .int .i64 a3], .int .i64 a4]) ∧ Changed w (foot p sv ls) p s' w' := by
  have := remove_any w p sv ls s hl ho hn k
  rw [hr] at this
  exact this
theorem ents_rem {s : St} (ho : Ok s) (h : ∀ k ∈ content s.l, IsEntry k) {kb : ByteArray} : ∀ k ∈ content (rem s kb).2.l, IsEntry k := by
  obtain ⟨_, _, _, hc⟩ := rem_ok ho.inv kb
  rcases hc with ⟨_, e⟩ | ⟨_, _, hm⟩
  · rw [e]; exact h
  · intro k hk'
    exact h k ((hm k).1 hk').2

set_option maxHeartbeats 4000000 in
set_option maxRecDepth 100000 in
theorem drop_bad (w : World) (x : Nat) (F : List Nat) (s : St) (h : IdxAt w x F s) (k n : Int) (f : Nat) (t : ByteArray) (tid : Int) (hn : -9223372036854775808 ≤ n ∧ n ≤ 9223372036854775807) (hf : f < 18446744073709551616) (hM : MaxAt w)
    (E : Int) (hE : entryE k n f t.toList tid = E) (hE0 : (E == 0) = false) :
    Calls Tryd.prog 9 #[.pointer (some ⟨x, 0, none⟩), V k n f t, .int .i64 tid] w fun e w' => e = .returned (ansV ⟨0, 0, 0, E⟩) ∧ IdxTo w x F s w' := by
  obtain ⟨hr1, hr2, hb0, hz⟩ := two_new w #[.int .i64 k, .int .i64 n, .float .f64 f, .string t] 33 #[.int .i64 0, .int .i64 0] 37
  have HB := Lib.hid hb0
  have HR := Lib.hid hr2
  have HM := Lib.hid (hM.below hb0)
  have HI := Lib.hid h
  have c0 := hr1.cell 0; have c1 := hr1.cell 1; have c2 := hr1.cell 2; have c3 := hr1.cell 3
  obtain ⟨S, hS⟩ : ∃ S, (⟨(entryK k n f t.toList tid).toArray⟩ : ByteArray) = S := ⟨_, rfl⟩
  have HS := Lib.hid hS
  have HE := Lib.hid hE
  have HN := Lib.hid hn
  have HF := Lib.hid hf
  have HZ := Lib.hid hz
  have hE1 : (E != 0) = true := by simp [bne, hE0]
  have hE2 : ¬ E = 0 := by simpa using hE0
  clear hr1 hr2 hb0 hz h hM hS hE hn hf
  go_enter Tryd.func9, Tryd.ntmps9
  go_wp2_with (first | (go_at_call 22; refine (entry_bad HN.out HF.out _ HM.out E HE.out S HS.out).mono ?_; rintro e w1 ⟨rfl, hb⟩; have HB1 := Lib.hid hb; clear hb c0 c1 c2 c3) | (refine wpList_store_keep rfl 37 (.tmp 7) (.tmp 22) rfl (w.heap.size + 1) #[.int .i64 0, .int .i64 0] rfl rfl 37 #[.int .i64 0, .int .i64 0] (HR.out.below HB1.out HR.out.lt) info37 rfl (all2 rfl rfl) ?_; intro W2 hr0 hk0; have HR2 := Lib.hid hr0; have HK2 := Lib.hid hk0; clear hr0 hk0))
  have hb1 : Below w.heap.size w w1 := HB.out.trans (HB1.out.mono (by rw [HZ.out]; omega))
  have hb2 : Below w.heap.size w W2 := hb1.trans (HK2.out.below (by have := hb1.size; omega) (fun i hi => by simp at hi; omega))
  exact bodyPost_ret (results_mid (p := 7) (u := 6) (v := 8) rfl _ W2 (w.heap.size + 1) 37 _ _ rfl HR2.out Tryd.underlying37 rfl info37) rfl ⟨rfl, IdxTo.same HI.out hb2⟩

set_option maxHeartbeats 4000000 in
set_option maxRecDepth 100000 in
theorem drop_good (w : World) (x : Nat) (F : List Nat) (s : St) (h : IdxAt w x F s) (hnl : s.l.length < 4096) (k n : Int) (f : Nat) (t : ByteArray) (tid : Int) (hn : -9223372036854775808 ≤ n ∧ n ≤ 9223372036854775807) (hf : f < 18446744073709551616) (hM : MaxAt w)
    (hE : entryE k n f t.toList tid = 0) (kb : ByteArray) (hk : entryB k n f t.toList tid.toNat = kb) (a1 a2 a3 a4 : Int) (s' : St) (hr : rem s kb = (⟨a1, a2, a3, a4⟩, s')) :
    Calls Tryd.prog 9 #[.pointer (some ⟨x, 0, none⟩), V k n f t, .int .i64 tid] w fun e w' => e = .returned (ansV ⟨a1, a2, a3, a4⟩) ∧ IdxTo w x F s' w' := by
  obtain ⟨hr1, hr2, hb0, hz⟩ := two_new w #[.int .i64 k, .int .i64 n, .float .f64 f, .string t] 33 #[.int .i64 0, .int .i64 0] 37
  obtain ⟨p, sv, ls, hx, hl, hF⟩ := h.ex
  have HB := Lib.hid hb0
  have HR := Lib.hid hr2
  have HM := Lib.hid (hM.below hb0)
  have HI := Lib.hid h
  have HX := Lib.hid hx
  have HL := Lib.hid hl
  have HFF := Lib.hid hF
  have c0 := hr1.cell 0; have c1 := hr1.cell 1; have c2 := hr1.cell 2; have c3 := hr1.cell 3
  have HE := Lib.hid hE
  have HKB := Lib.hid hk
  have HN := Lib.hid hn
  have HF := Lib.hid hf
  have HZ := Lib.hid hz
  have HIN := Lib.hid hr
  clear hr1 hr2 hb0 hz h hM hE hn hf hk hr hx hl hF
  go_enter Tryd.func9, Tryd.ntmps9
  go_wp2_with (first | (go_at_call 22; refine (entry_ok HE.out HN.out HF.out _ HM.out kb HKB.out).mono ?_; rintro e w1 ⟨rfl, hb⟩; have hb1 : Below w.heap.size w w1 := HB.out.trans (hb.mono (by rw [HZ.out]; omega)); have HR1 := Lib.hid (HR.out.below hb HR.out.lt); have HB1 := Lib.hid hb1; have x0 := (HX.out.below hb1 HX.out.lt).cell 0; clear hb hb1 c0 c1 c2 c3) | (go_at_call 23; refine (remove_at w1 p sv ls s (HL.out.fresh HB1.out) HI.out.ok hnl kb a1 a2 a3 a4 s' HIN.out).mono ?_; rintro e w2 ⟨rfl, hc⟩; have HC := Lib.hid hc; have HR2 := Lib.hid (let ⟨_, _, _, _, hkp⟩ := hc; hkp.row HR1.out (fun c => by have := HL.out.lt _ c; omega)); clear hc x0) | (refine wpList_store_keep rfl 37 (.tmp 7) (.tmp 31) rfl (w.heap.size + 1) #[.int .i64 a2, .int .i64 a3] rfl rfl 37 #[.int .i64 0, .int .i64 0] HR2.out info37 rfl (all2 rfl rfl) ?_; intro W3 hr0 hk0; have HR3 := Lib.hid hr0; have HK3 := Lib.hid hk0; clear hr0 hk0))
  refine bodyPost_ret (results_mid (p := 7) (u := 6) (v := 8) rfl _ W3 (w.heap.size + 1) 37 _ _ rfl HR3.out Tryd.underlying37 rfl info37) rfl ⟨rfl, ?_⟩
  obtain ⟨sv', ls', hl', hsub, hkp⟩ := HC.out
  have hfl := HL.out.lt
  have hs1 := HB1.out.size
  have hs2 := HR1.out.lt
  have hin : (rem s kb).2 = s' := by rw [HIN.out]
  have hnf : w.heap.size + 1 ∉ foot p sv' ls' := fun c => by
    rcases hsub _ c with e | e
    · have := hfl _ e; omega
    · omega
  have hxl := HX.out.lt
  have hxf : x ∉ foot p sv ls := fun c => HI.out.out (HFF.out x c)
  have hk3 : Keep (foot p sv ls) w W3 := by
    refine (Keep.trans (Keep.of_below HB1.out (foot p sv ls)) hkp (fun i hi => .inl hi)).trans HK3.out (fun i hi => .inr ?_)
    rw [List.mem_singleton.1 hi]; omega
  refine ⟨foot p sv' ls', ⟨⟨p, sv', ls', hk3.row HX.out hxf, hl'.keep HK3.out (fun b hb c => hnf (by rw [← List.mem_singleton.1 c]; exact hb)), fun b hb => hb⟩, fun c => ?_, ?_, ?_, fun b hb => Nat.lt_of_lt_of_le (hl'.lt b hb) HK3.out.size⟩, fun b hb => ?_, hk3.mono (fun b hb => HFF.out b hb)⟩
  · rcases hsub x c with e | e
    · exact hxf e
    · omega
  · rw [← hin]; exact (rem_few HI.out.ok kb).1
  · rw [← hin]; exact ents_rem HI.out.ok HI.out.ents
  · rcases hsub b hb with e | e
    · exact .inl (HFF.out b e)
    · exact .inr (by omega)

theorem drop_any (w : World) (x : Nat) (F : List Nat) (s : St) (h : IdxAt w x F s) (hnl : s.l.length < 4096) (k n : Int) (f : Nat) (t : ByteArray) (tid : Int) (hn : -9223372036854775808 ≤ n ∧ n ≤ 9223372036854775807) (hf : f < 18446744073709551616) (hM : MaxAt w) :
    Calls Tryd.prog 9 #[.pointer (some ⟨x, 0, none⟩), V k n f t, .int .i64 tid] w fun e w' => e = .returned (ansV (dropR s k n f t.toList tid).1) ∧ IdxTo w x F (dropR s k n f t.toList tid).2 w' := by
  unfold dropR
  by_cases hE : entryE k n f t.toList tid = 0
  · rw [if_pos hE]
    exact drop_good w x F s h hnl k n f t tid hn hf hM hE _ rfl _ _ _ _ _ rfl
  · rw [if_neg hE]
    exact drop_bad w x F s h k n f t tid hn hf hM _ rfl (beq_eq_false_iff_ne.2 hE)

end Go.Proofs.YtecmppmkidefmaaDoor
