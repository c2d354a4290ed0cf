/-
  The walks over an index: made, an entry more, what is found by a value, is an entry there, how many there are.
-/
import Derived.Test.YtecmppmkidefmaaDoorH14
import Derived.Test.YtecmppmkidefmaaDoorL0
namespace Go.Proofs.YtecmppmkidefmaaDoor
open Go.RowKit LeafW

theorem Keep.max {F : List Nat} {w w' : World} (h : Keep F w w') (hM : MaxAt w) (hF : 1 ∉ F) : MaxAt w' := by
  obtain ⟨m, hm⟩ := hM
  have hlt := World.block_lt_of_cell? _ _ hm
  exact ⟨m, by rw [World.cell?_of_block (w := w) (h.block _ hlt hF)]; exact hm⟩

/-- An index in memory: its own block, the blocks of its leaves. -/
structure IdxAt (w : World) (x : Nat) (F : List Nat) (s : St) : Prop where
  ex : ∃ p sv ls, Row5 w x 58 #[.pointer (some ⟨p, 0, none⟩)] ∧ LvsAt w p sv ls s ∧ ∀ b ∈ foot p sv ls, b ∈ F
  out : x ∉ F
  ok : Ok s
  ents : ∀ k ∈ content s.l, IsEntry k
  old : ∀ b ∈ F, b < w.heap.size
theorem IdxAt.keep {G : List Nat} {w w' : World} {x : Nat} {F : List Nat} {s : St} (h : IdxAt w x F s) (hk : Keep G w w') (hG : ∀ b ∈ G, b ∉ F ∧ b ≠ x) : IdxAt w' x F s := by
  obtain ⟨p, sv, ls, hr, hl, hf⟩ := h.ex
  exact ⟨⟨p, sv, ls, hk.row hr (fun c => (hG x c).2 rfl), hl.keep hk (fun b hb c => (hG b c).1 (hf b hb)), hf⟩, h.out, h.ok, h.ents, fun b hb => Nat.lt_of_lt_of_le (h.old b hb) hk.size⟩
theorem IdxAt.fresh {w w' : World} {x : Nat} {F : List Nat} {s : St} (h : IdxAt w x F s) (hb : Below w.heap.size w w') : IdxAt w' x F s := h.keep (Keep.of_below hb []) (fun _ c => by cases c)

def st0 (fan : Nat) : St := ⟨fan, 2, [⟨1, ⟨#[]⟩, []⟩]⟩
theorem ok0 {fan : Nat} (h2 : 2 ≤ fan) (h64 : fan ≤ 64) : Ok (st0 fan) :=
  ⟨⟨by simp [st0], fun y hy => by simp [st0] at hy; subst hy; rfl, by simp [st0], fun y hy => by simp [st0] at hy; subst hy; exact List.Pairwise.nil, by simp [st0], fun z hz k hk => by simp [st0] at hz; subst hz; cases hk⟩, h2, h64, fun y hy => by simp [st0] at hy; subst hy; exact Nat.zero_le _⟩

set_option maxHeartbeats 2000000 in
set_option maxRecDepth 100000 in
theorem idx_new (fan : Nat) (h2 : 2 ≤ fan) (h64 : fan ≤ 64) (w : World) :
    Calls Tryd.prog 6 #[.int .i64 fan] w fun e w' => ∃ x F, e = .returned (.tuple #[.pointer (some ⟨x, 0, none⟩), .int .i64 0]) ∧ IdxAt w' x F (st0 fan) ∧ (∀ b ∈ F, w.heap.size ≤ b) ∧ w.heap.size ≤ x ∧ Below w.heap.size w w' := by
  go_enter Tryd.func6, Tryd.ntmps6
  go_wp2_with (go_at_call 21; refine (new_any fan h2 h64 _).mono ?_; rintro e w1 ⟨p, rfl, sv, ls, hl, hF, hb⟩; have HL := Lib.hid hl; have HF := Lib.hid hF; have HB := Lib.hid hb; clear hl hF hb)
  go_ret2
  refine ⟨w1.heap.size, foot p sv ls, rfl, ⟨⟨p, sv, ls, Row5.new w1 _ _, HL.out.fresh ((Below.refl _ _).alloc (Nat.le_refl _) _), fun _ hb => hb⟩, fun c => Nat.lt_irrefl _ (HL.out.lt _ c), ok0 h2 h64, fun k hk => by simp [st0, content] at hk, fun b hb => Nat.lt_of_lt_of_le (HL.out.lt b hb) (by rw [World.size_alloc]; omega)⟩, HF.out, HB.out.size, HB.out.alloc HB.out.size _⟩

theorem good_len {k n : Int} {f : Nat} {l : List UInt8} (h : goodV k n f l = true) : l.length ≤ 256 := by
  rcases KeyW.good_cases h with ⟨_, _, _, e⟩ | ⟨_, _, _, e⟩ | ⟨_, _, e⟩ | ⟨_, _, _, e⟩ | ⟨_, _, _, e⟩
  · rw [e]; exact Nat.zero_le _
  · rw [e]; exact Nat.zero_le _
  · rw [e]; exact Nat.zero_le _
  · rw [e]; exact Nat.zero_le _
  · exact e
/-- An entry's key, as a text. -/
def entryB (k n : Int) (f : Nat) (l : List UInt8) (t : Nat) : ByteArray := ⟨(entryL k n f l t).toArray⟩
theorem entryB_list (k n : Int) (f : Nat) (l : List UInt8) (t : Nat) : (entryB k n f l t).toList = entryL k n f l t := ByteArray.toList_mk _
theorem size_list (a : ByteArray) : a.size = a.toList.length := by rw [Lib.toList_data]; simp
theorem entryB_size {k n : Int} {f : Nat} {l : List UInt8} (h : goodV k n f l = true) (t : Nat) : (entryB k n f l t).size ≤ 1000 := by
  rw [size_list, entryB_list]
  have h1 : (keyL k n f l).length ≤ 2 * l.length + 9 := KeyW.keyL_length
  have h2 := good_len h
  unfold entryL; simp; omega
theorem entryB_is {k n : Int} {f : Nat} {l : List UInt8} (h : goodV k n f l = true) (hn : -9223372036854775808 ≤ n ∧ n ≤ 9223372036854775807) (hf : f < 18446744073709551616) {t : Nat} (ht : t ≤ 65535) :
    IsEntry (entryB k n f l t) ∧ tidOf (entryB k n f l t) = t := by
  have hs := entryB_size h t
  have h1 := KeyW.first_of_key h hn hf [(t / 256).toUInt8, (t % 256).toUInt8]
  have h2 : firstL (entryB k n f l t).toList = some (⟨k, n, f, l⟩, [(t / 256).toUInt8, (t % 256).toUInt8]) := by rw [entryB_list]; exact h1
  refine ⟨⟨by omega, _, _, _, h2⟩, ?_⟩
  unfold tidOf
  rw [h2]
  have e1 : ((t / 256).toUInt8).toNat = t / 256 := by simp; omega
  have e2 : ((t % 256).toUInt8).toNat = t % 256 := by simp
  simp only [e1, e2]; omega

/-- What an entry more does. -/
def addR (s : St) (k n : Int) (f : Nat) (l : List UInt8) (t : Int) : Ans × St := if entryE k n f l t = 0 then ins s (entryB k n f l t.toNat) else (⟨0, 0, 0, entryE k n f l t⟩, s)
def dropR (s : St) (k n : Int) (f : Nat) (l : List UInt8) (t : Int) : Ans × St := if entryE k n f l t = 0 then rem s (entryB k n f l t.toNat) else (⟨0, 0, 0, entryE k n f l t⟩, s)
theorem entryE_zero {k n : Int} {f : Nat} {l : List UInt8} {t : Int} (h : entryE k n f l t = 0) : goodV k n f l = true ∧ 0 ≤ t ∧ t ≤ 65535 ∧ entryK k n f l t = entryL k n f l t.toNat := by
  unfold entryE at h
  unfold entryK
  cases hg : goodV k n f l
  · rw [hg] at h; simp at h
  · rw [hg] at h
    by_cases ht : 0 ≤ t ∧ t ≤ 65535
    · exact ⟨rfl, ht.1, ht.2, by simp [ht]⟩
    · simp [ht] at h

/-- What a change of an index leaves. -/
def IdxTo (w : World) (x : Nat) (F : List Nat) (s : St) (w' : World) : Prop := ∃ F', IdxAt w' x F' s ∧ (∀ b ∈ F', b ∈ F ∨ w.heap.size ≤ b) ∧ Keep F w w'

theorem IdxTo.same {w w' : World} {x : Nat} {F : List Nat} {s : St} (h : IdxAt w x F s) (hb : Below w.heap.size w w') : IdxTo w x F s w' := ⟨F, h.fresh hb, fun _ hb => .inl hb, Keep.of_below hb F⟩

theorem insert_at (w : World) (p : Nat) (sv : Value) (ls : List (Nat × Value)) (s : St) (hl : LvsAt w p sv ls s) (ho : Ok s) (hn : s.l.length < 4096) (hnx : s.next < 4096) (k : ByteArray) (hk : k.size ≤ 1024) (a1 a2 a3 a4 : Int) (s' : St) (hr : ins s k = (⟨a1, a2, a3, a4⟩, s')) :
    Calls Tryd.prog 24 #[.pointer (some ⟨p, 0, none⟩), .string k] w fun e w' => e = .returned (.tuple #[.int .i64 a1, .agg #[.int .i64 a2, .int .i64 a3], .int .i64 a4]) ∧ Changed w (foot p sv ls) p s' w' := by
  have := insert_any w p sv ls s hl ho hn hnx k hk
  rw [hr] at this
  exact this
theorem entry_ok {k n : Int} {f : Nat} {t : ByteArray} {tid : Int} (h : entryE k n f t.toList tid = 0) (hn : -9223372036854775808 ≤ n ∧ n ≤ 9223372036854775807) (hf : f < 18446744073709551616) (w : World) (hM : MaxAt w) (kb : ByteArray) (hk : entryB k n f t.toList tid.toNat = kb) :
    Calls Tryd.prog 22 #[V k n f t, .int .i64 tid] w fun e w' => e = .returned (.tuple #[.string kb, .int .i64 0]) ∧ Below w.heap.size w w' := by
  have := entry_any k n f t tid hn hf w hM
  rw [h, (entryE_zero h).2.2.2] at this
  rw [← hk]; exact this
theorem entry_bad {k n : Int} {f : Nat} {t : ByteArray} {tid : Int} (hn : -9223372036854775808 ≤ n ∧ n ≤ 9223372036854775807) (hf : f < 18446744073709551616) (w : World) (hM : MaxAt w) (E : Int) (hE : entryE k n f t.toList tid = E) (S : ByteArray) (hS : (⟨(entryK k n f t.toList tid).toArray⟩ : ByteArray) = S) :
    Calls Tryd.prog 22 #[V k n f t, .int .i64 tid] w fun e w' => e = .returned (.tuple #[.string S, .int .i64 E]) ∧ Below w.heap.size w w' := by
  have := entry_any k n f t tid hn hf w hM
  rw [hE, hS] at this; exact this

/-- What was laid for a call of an index: the value's box, the row of what is told. -/
theorem two_new (w : World) (a : Array Value) (T : TypeId) (b : Array Value) (T' : TypeId) :
    Row5 ((w.alloc (.cells a T)).alloc (.cells b T')) w.heap.size T a ∧ Row5 ((w.alloc (.cells a T)).alloc (.cells b T')) (w.heap.size + 1) T' b ∧ Below w.heap.size w ((w.alloc (.cells a T)).alloc (.cells b T')) ∧ ((w.alloc (.cells a T)).alloc (.cells b T')).heap.size = w.heap.size + 2 :=
  ⟨(Row5.new w T a).alloc _, row_new_at (World.size_alloc _ _) _ _, ((Below.refl _ _).alloc (Nat.le_refl _) _).alloc (by simp) _, by rw [World.size_alloc, World.size_alloc]⟩

theorem ents_ins {s : St} (ho : Ok s) (h : ∀ k ∈ content s.l, IsEntry k) {kb : ByteArray} (hk : IsEntry kb) : ∀ k ∈ content (ins s kb).2.l, IsEntry k := by
  obtain ⟨_, _, _, _, hc⟩ := ins_ok ho.inv ho.f2 kb
  rcases hc with ⟨_, e⟩ | ⟨_, _, hm⟩
  · rw [e]; exact h
  · intro k hk'
    rcases (hm k).1 hk' with rfl | h'
    · exact hk
    · exact h k h'

set_option maxHeartbeats 4000000 in
set_option maxRecDepth 100000 in
theorem add_bad (w : World) (x : Nat) (F : List Nat) (s : St) (h : IdxAt w x F s) (k n : Int) (f : Nat) (t : ByteArray) (tid : Int) (hn : -9223372036854775808 ≤ n ∧ n ≤ 9223372036854775807) (hf : f < 18446744073709551616) (hM : MaxAt w)
    (E : Int) (hE : entryE k n f t.toList tid = E) (hE0 : (E == 0) = false) :
    Calls Tryd.prog 10 #[.pointer (some ⟨x, 0, none⟩), V k n f t, .int .i64 tid] w fun e w' => e = .returned (ansV ⟨0, 0, 0, E⟩) ∧ IdxTo w x F s w' := by
  obtain ⟨hr1, hr2, hb0, hz⟩ := two_new w #[.int .i64 k, .int .i64 n, .float .f64 f, .string t] 33 #[.int .i64 0, .int .i64 0] 37
  have HB := Lib.hid hb0
  have HR := Lib.hid hr2
  have HM := Lib.hid (hM.below hb0)
  have HI := Lib.hid h
  have c0 := hr1.cell 0; have c1 := hr1.cell 1; have c2 := hr1.cell 2; have c3 := hr1.cell 3
  obtain ⟨S, hS⟩ : ∃ S, (⟨(entryK k n f t.toList tid).toArray⟩ : ByteArray) = S := ⟨_, rfl⟩
  have HS := Lib.hid hS
  have HE := Lib.hid hE
  have HN := Lib.hid hn
  have HF := Lib.hid hf
  have HZ := Lib.hid hz
  have hE1 : (E != 0) = true := by simp [bne, hE0]
  have hE2 : ¬ E = 0 := by simpa using hE0
  clear hr1 hr2 hb0 hz h hM hS hE hn hf
  go_enter Tryd.func10, Tryd.ntmps10
  go_wp2_with (first | (go_at_call 22; refine (entry_bad HN.out HF.out _ HM.out E HE.out S HS.out).mono ?_; rintro e w1 ⟨rfl, hb⟩; have HB1 := Lib.hid hb; clear hb c0 c1 c2 c3) | (refine wpList_store_keep rfl 37 (.tmp 7) (.tmp 22) rfl (w.heap.size + 1) #[.int .i64 0, .int .i64 0] rfl rfl 37 #[.int .i64 0, .int .i64 0] (HR.out.below HB1.out HR.out.lt) info37 rfl (all2 rfl rfl) ?_; intro W2 hr0 hk0; have HR2 := Lib.hid hr0; have HK2 := Lib.hid hk0; clear hr0 hk0))
  have hb1 : Below w.heap.size w w1 := HB.out.trans (HB1.out.mono (by rw [HZ.out]; omega))
  have hb2 : Below w.heap.size w W2 := hb1.trans (HK2.out.below (by have := hb1.size; omega) (fun i hi => by simp at hi; omega))
  exact bodyPost_ret (results_mid (p := 7) (u := 6) (v := 8) rfl _ W2 (w.heap.size + 1) 37 _ _ rfl HR2.out Tryd.underlying37 rfl info37) rfl ⟨rfl, IdxTo.same HI.out hb2⟩

set_option maxHeartbeats 4000000 in
set_option maxRecDepth 100000 in
theorem add_good (w : World) (x : Nat) (F : List Nat) (s : St) (h : IdxAt w x F s) (hnl : s.l.length < 4096) (hnx : s.next < 4096) (k n : Int) (f : Nat) (t : ByteArray) (tid : Int) (hn : -9223372036854775808 ≤ n ∧ n ≤ 9223372036854775807) (hf : f < 18446744073709551616) (hM : MaxAt w)
    (hE : entryE k n f t.toList tid = 0) (kb : ByteArray) (hk : entryB k n f t.toList tid.toNat = kb) (a1 a2 a3 a4 : Int) (s' : St) (hr : ins s kb = (⟨a1, a2, a3, a4⟩, s')) :
    Calls Tryd.prog 10 #[.pointer (some ⟨x, 0, none⟩), V k n f t, .int .i64 tid] w fun e w' => e = .returned (ansV ⟨a1, a2, a3, a4⟩) ∧ IdxTo w x F s' w' := by
  obtain ⟨hg, ht0, ht1, _⟩ := entryE_zero hE
  have hks : kb.size ≤ 1024 := by rw [← hk]; have := entryB_size hg tid.toNat; omega
  have hke : IsEntry kb := by rw [← hk]; exact (entryB_is hg hn hf (by omega)).1
  obtain ⟨hr1, hr2, hb0, hz⟩ := two_new w #[.int .i64 k, .int .i64 n, .float .f64 f, .string t] 33 #[.int .i64 0, .int .i64 0] 37
  obtain ⟨p, sv, ls, hx, hl, hF⟩ := h.ex
  have HB := Lib.hid hb0
  have HR := Lib.hid hr2
  have HM := Lib.hid (hM.below hb0)
  have HI := Lib.hid h
  have HX := Lib.hid hx
  have HL := Lib.hid hl
  have HFF := Lib.hid hF
  have c0 := hr1.cell 0; have c1 := hr1.cell 1; have c2 := hr1.cell 2; have c3 := hr1.cell 3
  have HE := Lib.hid hE
  have HKB := Lib.hid hk
  have HN := Lib.hid hn
  have HF := Lib.hid hf
  have HZ := Lib.hid hz
  have HIN := Lib.hid hr
  clear hr1 hr2 hb0 hz h hM hE hn hf hk hr hx hl hF
  go_enter Tryd.func10, Tryd.ntmps10
  go_wp2_with (first | (go_at_call 22; refine (entry_ok HE.out HN.out HF.out _ HM.out kb HKB.out).mono ?_; rintro e w1 ⟨rfl, hb⟩; have hb1 : Below w.heap.size w w1 := HB.out.trans (hb.mono (by rw [HZ.out]; omega)); have HR1 := Lib.hid (HR.out.below hb HR.out.lt); have HB1 := Lib.hid hb1; have x0 := (HX.out.below hb1 HX.out.lt).cell 0; clear hb hb1 c0 c1 c2 c3) | (go_at_call 24; refine (insert_at w1 p sv ls s (HL.out.fresh HB1.out) HI.out.ok hnl hnx kb hks a1 a2 a3 a4 s' HIN.out).mono ?_; rintro e w2 ⟨rfl, hc⟩; have HC := Lib.hid hc; have HR2 := Lib.hid (let ⟨_, _, _, _, hkp⟩ := hc; hkp.row HR1.out (fun c => by have := HL.out.lt _ c; omega)); clear hc x0) | (refine wpList_store_keep rfl 37 (.tmp 7) (.tmp 31) rfl (w.heap.size + 1) #[.int .i64 a2, .int .i64 a3] rfl rfl 37 #[.int .i64 0, .int .i64 0] HR2.out info37 rfl (all2 rfl rfl) ?_; intro W3 hr0 hk0; have HR3 := Lib.hid hr0; have HK3 := Lib.hid hk0; clear hr0 hk0))
  refine bodyPost_ret (results_mid (p := 7) (u := 6) (v := 8) rfl _ W3 (w.heap.size + 1) 37 _ _ rfl HR3.out Tryd.underlying37 rfl info37) rfl ⟨rfl, ?_⟩
  obtain ⟨sv', ls', hl', hsub, hkp⟩ := HC.out
  have hfl := HL.out.lt
  have hs1 := HB1.out.size
  have hs2 := HR1.out.lt
  have hin : (ins s kb).2 = s' := by rw [HIN.out]
  have hnf : w.heap.size + 1 ∉ foot p sv' ls' := fun c => by
    rcases hsub _ c with e | e
    · have := hfl _ e; omega
    · omega
  have hxl := HX.out.lt
  have hxf : x ∉ foot p sv ls := fun c => HI.out.out (HFF.out x c)
  have hk3 : Keep (foot p sv ls) w W3 := by
    refine (Keep.trans (Keep.of_below HB1.out (foot p sv ls)) hkp (fun i hi => .inl hi)).trans HK3.out (fun i hi => .inr ?_)
    rw [List.mem_singleton.1 hi]; omega
  refine ⟨foot p sv' ls', ⟨⟨p, sv', ls', hk3.row HX.out hxf, hl'.keep HK3.out (fun b hb c => hnf (by rw [← List.mem_singleton.1 c]; exact hb)), fun b hb => hb⟩, fun c => ?_, ?_, ?_, fun b hb => Nat.lt_of_lt_of_le (hl'.lt b hb) HK3.out.size⟩, fun b hb => ?_, hk3.mono (fun b hb => HFF.out b hb)⟩
  · rcases hsub x c with e | e
    · exact hxf e
    · omega
  · rw [← hin]; exact (ins_few HI.out.ok kb).1
  · rw [← hin]; exact ents_ins HI.out.ok HI.out.ents hke
  · rcases hsub b hb with e | e
    · exact .inl (HFF.out b e)
    · exact .inr (by omega)

theorem add_any (w : World) (x : Nat) (F : List Nat) (s : St) (h : IdxAt w x F s) (hnl : s.l.length < 4096) (hnx : s.next < 4096) (k n : Int) (f : Nat) (t : ByteArray) (tid : Int) (hn : -9223372036854775808 ≤ n ∧ n ≤ 9223372036854775807) (hf : f < 18446744073709551616) (hM : MaxAt w) :
    Calls Tryd.prog 10 #[.pointer (some ⟨x, 0, none⟩), V k n f t, .int .i64 tid] w fun e w' => e = .returned (ansV (addR s k n f t.toList tid).1) ∧ IdxTo w x F (addR s k n f t.toList tid).2 w' := by
  unfold addR
  by_cases hE : entryE k n f t.toList tid = 0
  · rw [if_pos hE]
    exact add_good w x F s h hnl hnx k n f t tid hn hf hM hE _ rfl _ _ _ _ _ rfl
  · rw [if_neg hE]
    exact add_bad w x F s h k n f t tid hn hf hM _ rfl (beq_eq_false_iff_ne.2 hE)

end Go.Proofs.YtecmppmkidefmaaDoor
