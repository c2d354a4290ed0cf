/-
  Plain facts: strings.ReplaceAll of a nought byte, strings.IndexByte of one. No program here.
-/
import Derived.Test.YtecmppmkidefmaaDoorRead
import Derived.Lib.ReplaceLaws
import Derived.Lib.CountLaws
namespace Go.Proofs.YtecmppmkidefmaaDoor
namespace KeyW
open Go.Lib

theorem index0 (b : UInt8) (l : List UInt8) : index (b :: l) [0] = if b = 0 then 0 else if index l [0] = -1 then -1 else index l [0] + 1 := by
  show (if ([0] : List UInt8).isPrefixOf (b :: l) then (0 : Int) else if index l [0] == -1 then -1 else index l [0] + 1) = _
  by_cases h : b = 0
  · subst h; simp [List.isPrefixOf]
  · have : ([0] : List UInt8).isPrefixOf (b :: l) = false := by
      simp [List.isPrefixOf]; exact fun e => h e.symm
    rw [this, if_neg h]; simp

theorem esc_none : ∀ (s : List UInt8), index s [0] = -1 → escL s = s
  | [], _ => rfl
  | b :: l, h => by
    rw [index0] at h
    by_cases e : b = 0
    · rw [if_pos e] at h; cases h
    · rw [if_neg e] at h
      by_cases k : index l [0] = -1
      · simp only [escL, if_neg e, esc_none l k]
      · rw [if_neg k] at h; have := index_ge l [0]; omega

theorem esc_hit : ∀ (s : List UInt8) (i : Nat), index s [0] = i → escL s = s.take i ++ [0, 255] ++ escL (s.drop (i + 1))
  | [], i, h => by
    have : index [] ([0] : List UInt8) = -1 := rfl
    rw [this] at h; omega
  | b :: l, i, h => by
    rw [index0] at h
    by_cases e : b = 0
    · rw [if_pos e] at h
      have : i = 0 := by omega
      subst this; subst e; simp [escL]
    · rw [if_neg e] at h
      by_cases k : index l [0] = -1
      · rw [if_pos k] at h; omega
      · rw [if_neg k] at h
        have := index_ge l [0]
        obtain ⟨j, rfl⟩ : ∃ j, i = j + 1 := ⟨i - 1, by omega⟩
        have ih := esc_hit l j (by omega)
        simp only [escL, if_neg e, ih]; simp

theorem replace_esc : ∀ (n : Nat) (s : List UInt8), s.length ≤ n → replaceK [0] [0, 255] (count s [0]) s = escL s
  | n, s, hn => by
    by_cases h : index s [0] = -1
    · rw [count_miss h, esc_none s h]; rfl
    · have hg := index_ge s [0]
      obtain ⟨i, hi⟩ : ∃ i : Nat, index s [0] = i := ⟨(index s [0]).toNat, by omega⟩
      have hr := index_room s [0] (by omega)
      simp at hr
      rw [count_hit (by simp) hi, Nat.add_comm 1, replaceK_hit _ _ _ _ i hi, esc_hit s i hi]
      cases n with
      | zero => omega
      | succ n =>
        have hd : (s.drop (i + 1)).length ≤ n := by rw [List.length_drop]; omega
        show _ ++ replaceK _ _ (count (s.drop (i + 1)) [0]) (s.drop (i + 1)) = _
        rw [replace_esc n (s.drop (i + 1)) hd]

theorem replaceAll_esc (s : List UInt8) : replaceAll s [0] [0, 255] = escL s := by
  unfold replaceAll replace
  rw [if_neg (by decide)]
  have : replaceNum s [0] (-1) = count s [0] := by unfold replaceNum; rw [if_pos (Or.inl (by decide))]
  rw [this, replace_esc s.length s (Nat.le_refl _)]

/-- No nought ahead: read on behind it. -/
theorem text_free : ∀ (a b : List UInt8), (∀ c ∈ a, c ≠ 0) → b ≠ [] → textL (a ++ b) = (textL b).map fun x => (a ++ x.1, x.2)
  | [], b, _, _ => by simp
  | c :: a, b, h, hb => by
    have hc : c ≠ 0 := h c (List.mem_cons_self ..)
    have ih := text_free a b (fun d hd => h d (List.mem_cons_of_mem _ hd)) hb
    cases e : a ++ b with
    | nil => simp at e; exact absurd e.2 hb
    | cons d r =>
      rw [List.cons_append, e]
      simp only [textL, if_neg hc]
      rw [← e, ih]
      cases textL b <;> rfl

theorem text_no (l : List UInt8) (h : ∀ c ∈ l, c ≠ 0) : textL l = none := by
  induction l with
  | nil => rfl
  | cons c l ih =>
    cases l with
    | nil => rfl
    | cons d r =>
      simp only [textL, if_neg (h c (List.mem_cons_self ..)), ih (fun x hx => h x (List.mem_cons_of_mem _ hx))]; rfl

theorem indexByte_spec : ∀ (s : List UInt8), (indexByte s 0 = -1 ∧ ∀ c ∈ s, c ≠ 0) ∨ ∃ i : Nat, indexByte s 0 = i ∧ i < s.length ∧ s.drop i = 0 :: s.drop (i + 1) ∧ ∀ c ∈ s.take i, c ≠ 0
  | [] => Or.inl ⟨rfl, by simp⟩
  | b :: l => by
    by_cases e : b = 0
    · subst e
      exact Or.inr ⟨0, by simp [indexByte], by simp, by simp, by simp⟩
    · have hb : (b == 0) = false := beq_eq_false_iff_ne.2 e
      rcases indexByte_spec l with ⟨h1, h2⟩ | ⟨i, h1, h2, h3, h4⟩
      · refine Or.inl ⟨by simp [indexByte, hb, h1], fun c hc => ?_⟩
        rcases List.mem_cons.1 hc with rfl | hc
        · exact e
        · exact h2 c hc
      · refine Or.inr ⟨i + 1, ?_, by simpa using h2, by simpa using h3, fun c hc => ?_⟩
        · unfold indexByte
          rw [hb, h1]
          have : ((i : Int) == -1) = false := by rw [beq_eq_false_iff_ne]; omega
          rw [this]; simp
        · rw [List.take_succ_cons] at hc
          rcases List.mem_cons.1 hc with rfl | hc
          · exact e
          · exact h4 c hc

end KeyW
end Go.Proofs.YtecmppmkidefmaaDoor
