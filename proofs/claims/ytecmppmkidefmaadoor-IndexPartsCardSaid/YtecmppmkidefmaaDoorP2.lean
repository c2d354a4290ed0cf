/-
  Plain facts: which entries lie between two values' keys. And the walk over what an index gives between two values.
-/
import Derived.Test.YtecmppmkidefmaaDoorP1
namespace Go.Proofs.YtecmppmkidefmaaDoor
open Go.RowKit LeafW

theorem entry_value {k : ByteArray} (h : IsEntry k) : ∃ (u : Val) (t : Nat), t ≤ 65535 ∧ goodV u.k u.n u.f u.l = true ∧ (-9223372036854775808 ≤ u.n ∧ u.n ≤ 9223372036854775807) ∧ u.f < 18446744073709551616 ∧ k = entryB u.k u.n u.f u.l t ∧ tidOf k = t := by
  obtain ⟨_, v, a, b, hf⟩ := h
  obtain ⟨hg, hk, hn, hff⟩ := KeyW.key_of_first hf
  have h0 := a.toNat_lt
  have h1 := b.toNat_lt
  have e0 : (a.toNat * 256 + b.toNat) / 256 = a.toNat := by omega
  have e1 : (a.toNat * 256 + b.toNat) % 256 = b.toNat := by omega
  refine ⟨v, a.toNat * 256 + b.toNat, by omega, hg, hn, hff, LeafW.ext ?_, ?_⟩
  · rw [entryB_list, hk]
    unfold entryL
    rw [e0, e1]
    simp
  · unfold tidOf
    rw [hf]
    simp

section
variable {k n : Int} {f : Nat} {l : List UInt8} {k' n' : Int} {f' : Nat} {l' : List UInt8} {t : Nat}
variable (h : goodV k n f l = true) (hn : -9223372036854775808 ≤ n ∧ n ≤ 9223372036854775807) (hf : f < 18446744073709551616)
  (h' : goodV k' n' f' l' = true) (hn' : -9223372036854775808 ≤ n' ∧ n' ≤ 9223372036854775807) (hf' : f' < 18446744073709551616) (ht : t ≤ 65535)
include h hn hf h' hn' hf' ht

/-- An entry stands below a value's least just if its value does. -/
theorem lt_least : lt (entryB k n f l t) (entryB k' n' f' l' 0) = decide (cmpV k n f l k' n' f' l' < 0) := by
  rcases KeyW.key_sep h h' hn hn' hf hf' with ⟨c, s⟩ | ⟨c, rfl, rfl, rfl, rfl⟩ | ⟨c, s⟩
  · rw [decide_eq_true c]
    unfold lt; rw [entryB_list, entryB_list]
    exact s _ _
  · rw [decide_eq_false (by omega)]
    rcases Nat.eq_zero_or_pos t with rfl | d
    · exact lt_irrefl _
    · exact lt_asymm (entryB_lt ht d)
  · rw [decide_eq_false (by omega)]
    refine lt_asymm ?_
    unfold lt; rw [entryB_list, entryB_list]
    exact s _ _
/-- An entry stands below what is behind a value's just if its value is not above. -/
theorem lt_after : lt (entryB k n f l t) (afterB k' n' f' l') = decide (cmpV k n f l k' n' f' l' ≤ 0) := by
  have e : entryL k' n' f' l' 65535 ++ [0] = keyL k' n' f' l' ++ ([(65535 / 256 : Nat).toUInt8, (65535 % 256 : Nat).toUInt8] ++ [0]) := by unfold entryL; rw [List.append_assoc]
  rcases KeyW.key_sep h h' hn hn' hf hf' with ⟨c, s⟩ | ⟨c, rfl, rfl, rfl, rfl⟩ | ⟨c, s⟩
  · rw [decide_eq_true (by omega)]
    unfold lt; rw [entryB_list, afterB_list, e]
    exact s _ _
  · rw [decide_eq_true (by omega)]
    exact entryB_after ht
  · rw [decide_eq_false (by omega)]
    refine lt_asymm ?_
    unfold lt; rw [entryB_list, afterB_list, e]
    exact s _ _
end

/-- What lies between two falls in what lies below a third one between them, and what lies from it on. -/
theorem filter_parts {ks : List ByteArray} (hs : Srt ks) {A B C : ByteArray} (h1 : lt B A = false) (h2 : lt C B = false) : ks.filter (within A C) = ks.filter (within A B) ++ ks.filter (within B C) := by
  refine srt_ext (hs.sublist List.filter_sublist) (List.pairwise_append.2 ⟨hs.sublist List.filter_sublist, hs.sublist List.filter_sublist, fun x hx y hy => ?_⟩) (fun x => ?_)
  · have hx' := (List.mem_filter.1 hx).2
    have hy' := (List.mem_filter.1 hy).2
    unfold within at hx' hy'
    simp only [Bool.and_eq_true, Bool.not_eq_true'] at hx' hy'
    exact lt_le hx'.2 hy'.1
  · rw [List.mem_append, List.mem_filter, List.mem_filter, List.mem_filter]
    unfold within
    simp only [Bool.and_eq_true, Bool.not_eq_true']
    constructor
    · rintro ⟨hm, ha, hc⟩
      cases hb : lt x B
      · exact .inr ⟨hm, rfl, hc⟩
      · exact .inl ⟨hm, ha, rfl⟩
    · rintro (⟨hm, ha, hb⟩ | ⟨hm, hb, hc⟩)
      · exact ⟨hm, ha, lt_le hb h2⟩
      · exact ⟨hm, LeafW.le_trans h1 hb, hc⟩

/-- A number's key. -/
def intB (a : Int) : ByteArray := entryB 2 a 0 [] 0
theorem cmp_int (a b : Int) : cmpV 2 a 0 [] 2 b 0 [] = if a < b then -1 else if b < a then 1 else 0 := by
  have e : cmpF 0 0 = 0 := by decide +kernel
  have e' : cmpL [] [] = 0 := by decide +kernel
  unfold cmpV
  rw [if_neg (by omega), if_neg (by omega), e, e']
  simp
theorem int_good (a : Int) : goodV 2 a 0 [] = true := by unfold goodV; simp
theorem int_up {a b : Int} (ha : -9223372036854775808 ≤ a ∧ a ≤ 9223372036854775807) (hb : -9223372036854775808 ≤ b ∧ b ≤ 9223372036854775807) (h : a ≤ b) : lt (intB b) (intB a) = false := by
  unfold intB
  rw [lt_least (int_good b) hb (by omega) (int_good a) ha (by omega) (by omega)]
  refine decide_eq_false ?_
  rw [cmp_int]
  split
  · omega
  · split <;> omega
theorem int_next {a : Int} (ha : -9223372036854775808 ≤ a ∧ a + 1 ≤ 9223372036854775807) {k : ByteArray} (hk : IsEntry k) : lt k (afterB 2 a 0 []) = lt k (intB (a + 1)) := by
  obtain ⟨u, t, ht, hg, hn, hf, rfl, _⟩ := entry_value hk
  unfold intB
  rw [lt_after hg hn hf (int_good a) (by omega) (by omega) ht, lt_least hg hn hf (int_good (a + 1)) (by omega) (by omega) ht]
  rw [decide_eq_decide]
  obtain ⟨uk, un, uf, ul⟩ := u
  rcases KeyW.good_cases hg with ⟨h1, _⟩ | ⟨h1, _⟩ | ⟨h1, h2, h3⟩ | ⟨h1, _⟩ | ⟨h1, _⟩
  · dsimp only at h1 ⊢; subst h1; simp [cmpV]
  · dsimp only at h1 ⊢; subst h1; simp [cmpV]
  · dsimp only at h1 h2 h3 ⊢
    subst h1 h2 h3
    rw [cmp_int, cmp_int]
    constructor
    · intro h; split at h <;> split <;> (try split) <;> omega
    · intro h; split at h <;> split <;> (try split) <;> omega
  · dsimp only at h1 ⊢; subst h1; simp [cmpV]
  · dsimp only at h1 ⊢; subst h1; simp [cmpV]
/-- A value alone is what lies from it on, below the next one. -/
theorem range_next {s : St} (ho : Ok s) (he : ∀ k ∈ content s.l, IsEntry k) {a : Int} (ha : -9223372036854775808 ≤ a ∧ a + 1 ≤ 9223372036854775807) : rangeK s.l (intB a) (afterB 2 a 0 []) = rangeK s.l (intB a) (intB (a + 1)) := by
  rw [range_all ho.inv, range_all ho.inv]
  refine List.filter_congr fun k hk => ?_
  unfold within
  rw [int_next ha (he k hk)]
theorem range_parts {s : St} (ho : Ok s) {a b c : Int} (ha : -9223372036854775808 ≤ a ∧ a ≤ 9223372036854775807) (hb : -9223372036854775808 ≤ b ∧ b ≤ 9223372036854775807) (hc : -9223372036854775808 ≤ c ∧ c ≤ 9223372036854775807) (h1 : a ≤ b) (h2 : b ≤ c) :
    rangeK s.l (intB a) (intB c) = rangeK s.l (intB a) (intB b) ++ rangeK s.l (intB b) (intB c) := by
  rw [range_all ho.inv, range_all ho.inv, range_all ho.inv]
  exact filter_parts ho.inv.content_srt (int_up ha hb h1) (int_up hb hc h2)
theorem range_few {s : St} (ho : Ok s) {n : Nat} (hn : s.l.length ≤ n) (a b : ByteArray) : (rangeK s.l a b).length ≤ 64 * n := by
  rw [range_all ho.inv]
  refine Nat.le_trans List.filter_sublist.length_le (Nat.le_trans (content_few ho.few) ?_)
  exact Nat.mul_le_mul ho.f64 hn

set_option maxHeartbeats 4000000 in
set_option maxRecDepth 100000 in
theorem range_good (w : World) (x : Nat) (F : List Nat) (s : St) (h : IdxAt w x F s) (hnl : s.l.length < 4096) (k n : Int) (f : Nat) (t : ByteArray) (hn : -9223372036854775808 ≤ n ∧ n ≤ 9223372036854775807) (hf : f < 18446744073709551616) (hg : goodV k n f t.toList = true)
    (k' n' : Int) (f' : Nat) (t' : ByteArray) (hn' : -9223372036854775808 ≤ n' ∧ n' ≤ 9223372036854775807) (hf' : f' < 18446744073709551616) (hg' : goodV k' n' f' t'.toList = true) (hM : MaxAt w)
    (A B : ByteArray) (hA : entryB k n f t.toList 0 = A) (hB : entryB k' n' f' t'.toList 0 = B) :
    Calls Tryd.prog 11 #[.pointer (some ⟨x, 0, none⟩), V k n f t, V k' n' f' t'] w (Gives w ((rangeK s.l A B).map tidOf) (rangeN s.l A B)) := by
  obtain ⟨hr1, hr2, hb0, hz⟩ := two_new w #[.int .i64 k, .int .i64 n, .float .f64 f, .string t] 33 #[.int .i64 k', .int .i64 n', .float .f64 f', .string t'] 33
  have HBE := Lib.hid (show B.toList.isEmpty = false by rw [← hB]; exact entryB_ne _ _ _ _ _)
  have HB := Lib.hid hb0
  have HR := Lib.hid hr2
  have HM := Lib.hid (hM.below hb0)
  have HN := Lib.hid hn
  have HF := Lib.hid hf
  have HG := Lib.hid hg
  have HN' := Lib.hid hn'
  have HF' := Lib.hid hf'
  have HG' := Lib.hid hg'
  have HI := Lib.hid h
  have HA := Lib.hid hA
  have HBB := Lib.hid hB
  have HZ := Lib.hid hz
  have c0 := hr1.cell 0; have c1 := hr1.cell 1; have c2 := hr1.cell 2; have c3 := hr1.cell 3
  clear hr1 hr2 hb0 hM hn hf hg hn' hf' hg' hA hB h hz
  go_enter Tryd.func11, Tryd.ntmps11
  go_wp2_with fail
  refine (least_ok HG.out HN.out HF.out _ HM.out A HA.out).mono ?_
  rintro e w1 ⟨rfl, hb⟩
  have HB1 := Lib.hid (HB.out.trans (hb.mono (by rw [HZ.out]; omega)))
  have HM1 := Lib.hid (HM.out.below hb)
  have hr := HR.out.below hb HR.out.lt
  clear c0 c1 c2 c3
  have c0 := hr.cell 0; have c1 := hr.cell 1; have c2 := hr.cell 2; have c3 := hr.cell 3
  clear hb hr
  go_wp2_with fail
  refine (least_ok HG'.out HN'.out HF'.out _ HM1.out B HBB.out).mono ?_
  rintro e w2 ⟨rfl, hb⟩
  have HB2 := Lib.hid (HB1.out.trans (hb.mono HB1.out.size))
  clear hb c0 c1 c2 c3
  go_wp2_with fail
  refine (btw_gives _ x F s (HI.out.fresh HB2.out) hnl A B HBE.out).mono ?_
  intro e w3 hgv
  obtain ⟨tv, lv, rfl, h1, h2, h3⟩ := hgv.sub HB2.out
  have H1 := Lib.hid h1
  have H2 := Lib.hid h2
  have H3 := Lib.hid h3
  clear h1 h2 h3 hgv
  go_wp2
  go_ret2
  exact ⟨tv, lv, rfl, H1.out, H2.out, H3.out⟩

end Go.Proofs.YtecmppmkidefmaaDoor
