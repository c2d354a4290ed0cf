/-
  Plain facts on keys: what is read out of bytes is what they were made of. No program here.
-/
import Derived.Test.YtecmppmkidefmaaDoorKey
namespace Go.Proofs.YtecmppmkidefmaaDoor
namespace KeyW
open Op

theorem num_eight (u : Nat) (h : u < 18446744073709551616) : numL (eightL u) = u := by
  simp only [numL, eightL, List.foldl]
  simp
  omega

theorem list8 {l : List UInt8} (h : l.length = 8) : ∃ a b c d e f g i, l = [a, b, c, d, e, f, g, i] := by
  match l, h with
  | [a, b, c, d, e, f, g, i], _ => exact ⟨a, b, c, d, e, f, g, i, rfl⟩

theorem num_lt {l : List UInt8} (h : l.length = 8) : numL l < 18446744073709551616 := by
  obtain ⟨a, b, c, d, e, f, g, i, rfl⟩ := list8 h
  simp only [numL, List.foldl]
  have := a.toNat_lt; have := b.toNat_lt; have := c.toNat_lt; have := d.toNat_lt; have := e.toNat_lt; have := f.toNat_lt; have := g.toNat_lt; have := i.toNat_lt
  omega

theorem u8_of (n : Nat) (c : UInt8) (h : n = c.toNat) : n.toUInt8 = c := by
  subst h; simp

theorem eight_num {l : List UInt8} (h : l.length = 8) : eightL (numL l) = l := by
  obtain ⟨a, b, c, d, e, f, g, i, rfl⟩ := list8 h
  simp only [numL, List.foldl, eightL]
  have := a.toNat_lt; have := b.toNat_lt; have := c.toNat_lt; have := d.toNat_lt; have := e.toNat_lt; have := f.toNat_lt; have := g.toNat_lt; have := i.toNat_lt
  rw [u8_of _ a (by omega), u8_of _ b (by omega), u8_of _ c (by omega), u8_of _ d (by omega), u8_of _ e (by omega), u8_of _ f (by omega), u8_of _ g (by omega), u8_of _ i (by omega)]

theorem eight_length (u : Nat) : (eightL u).length = 8 := rfl

theorem text_esc (s rest : List UInt8) : textL (escL s ++ 0 :: 1 :: rest) = some (s, rest) := by
  induction s with
  | nil => simp [escL, textL]
  | cons a s ih =>
    by_cases h : a = 0
    · subst h
      simp only [escL, if_true, List.cons_append, textL]
      rw [if_neg (by decide), ih]; rfl
    · simp only [escL, if_neg h, List.cons_append]
      cases e : escL s ++ 0 :: 1 :: rest with
      | nil => simp at e
      | cons d r =>
        simp only [textL, if_neg h]
        rw [← e, ih]; rfl

theorem esc_text (m : List UInt8) : ∀ t rest, textL m = some (t, rest) → m = escL t ++ 0 :: 1 :: rest := by
  induction m using textL.induct with
  | case1 => intro t rest h; cases h
  | case2 => intro t rest h; cases h
  | case3 r => intro t rest h; simp [textL] at h; obtain ⟨rfl, rfl⟩ := h; simp [escL]
  | case4 r _ ih =>
    intro t rest h
    simp [textL] at h
    obtain ⟨x, h1, rfl⟩ := h
    have := ih _ _ h1
    simp [escL, this]
  | case5 d r =>
    intro t rest h
    simp [textL, *] at h
  | case6 c d r =>
    intro t rest h
    rename_i h1 ih
    simp [textL, h1] at h
    obtain ⟨x, h2, rfl⟩ := h
    have := ih _ _ h2
    simp [escL, h1, this]

theorem first_of_key {k n : Int} {f : Nat} {l : List UInt8} (h : goodV k n f l = true) (hn : -9223372036854775808 ≤ n ∧ n ≤ 9223372036854775807) (hf : f < 18446744073709551616) (rest : List UInt8) :
    firstL (keyL k n f l ++ rest) = some (⟨k, n, f, l⟩, rest) := by
  rcases good_cases h with ⟨rfl, rfl, rfl, rfl⟩ | ⟨rfl, a, rfl, rfl⟩ | ⟨rfl, rfl, rfl⟩ | ⟨rfl, rfl, a, rfl⟩ | ⟨rfl, rfl, rfl, a⟩
  · rfl
  · rcases a with rfl | rfl <;> rfl
  · show firstL (2 :: (eightL (n + 9223372036854775808).toNat ++ rest)) = _
    simp only [firstL]
    have e : (eightL (n + 9223372036854775808).toNat ++ rest).length = 8 + rest.length := by rw [List.length_append, eight_length]
    rw [if_neg (by decide), if_neg (by decide), if_pos trivial, if_neg (by omega), List.take_left' (eight_length _), List.drop_left' (eight_length _), num_eight _ (by omega)]
    congr 3; omega
  · show firstL (3 :: (eightL (bitsF f) ++ rest)) = _
    simp only [firstL]
    have e : (eightL (bitsF f) ++ rest).length = 8 + rest.length := by rw [List.length_append, eight_length]
    rw [if_neg (by decide), if_neg (by decide), if_neg (by decide), if_pos trivial, if_neg (by omega), List.take_left' (eight_length _), List.drop_left' (eight_length _), num_eight _ (FloatW.bits_lt f hf), FloatW.from_bits f hf a]
    rfl
  · show firstL (4 :: (escL l ++ [0, 1] ++ rest)) = _
    simp only [firstL]
    rw [if_neg (by decide), if_neg (by decide), if_neg (by decide), if_neg (by decide), if_pos trivial, List.append_assoc]
    show (textL (escL l ++ 0 :: 1 :: rest)).bind _ = _
    rw [text_esc]
    simp only [Option.bind_some, if_pos a]

theorem key_of_first {m : List UInt8} {v : Val} {rest : List UInt8} (h : firstL m = some (v, rest)) :
    goodV v.k v.n v.f v.l = true ∧ m = keyL v.k v.n v.f v.l ++ rest ∧ (-9223372036854775808 ≤ v.n ∧ v.n ≤ 9223372036854775807) ∧ v.f < 18446744073709551616 := by
  cases m with
  | nil => cases h
  | cons c r =>
    simp only [firstL] at h
    by_cases h0 : c = 0
    · rw [if_pos h0] at h; cases h; subst h0
      exact ⟨rfl, rfl, ⟨by decide, by decide⟩, by decide⟩
    rw [if_neg h0] at h
    by_cases h1 : c = 1
    · rw [if_pos h1] at h; subst h1
      cases r with
      | nil => cases h
      | cons b r' =>
        simp only at h
        split at h
        · rename_i hb
          cases h
          have hb' : b.toNat ≤ 1 := by simpa [UInt8.le_iff_toNat_le] using hb
          refine ⟨?_, ?_, ⟨by show _ ≤ (b.toNat : Int); omega, by show (b.toNat : Int) ≤ _; omega⟩, by show 0 < _; decide⟩
          · have : b.toNat = 0 ∨ b.toNat = 1 := by omega
            rcases this with e | e <;> simp [goodV, e]
          · simp [keyL]
        · cases h
    rw [if_neg h1] at h
    by_cases h2 : c = 2
    · rw [if_pos h2] at h; subst h2
      split at h
      · cases h
      · rename_i hl
        cases h
        have h8 : (r.take 8).length = 8 := by rw [List.length_take]; omega
        have hb := num_lt h8
        refine ⟨rfl, ?_, ⟨by show _ ≤ _ - _; omega, by show _ - _ ≤ _; omega⟩, by show 0 < _; decide⟩
        show 2 :: r = (2 :: eightL ((numL (r.take 8) : Int) - 9223372036854775808 + 9223372036854775808).toNat) ++ r.drop 8
        rw [show ((numL (r.take 8) : Int) - 9223372036854775808 + 9223372036854775808).toNat = numL (r.take 8) by omega, eight_num h8, List.cons_append, List.take_append_drop]
    rw [if_neg h2] at h
    by_cases h3 : c = 3
    · rw [if_pos h3] at h; subst h3
      split at h
      · cases h
      · rename_i hl
        have h8 : (r.take 8).length = 8 := by rw [List.length_take]; omega
        have hb := num_lt h8
        cases e : fromF (numL (r.take 8)) with
        | none => rw [e] at h; cases h
        | some f =>
          rw [e] at h; cases h
          obtain ⟨a1, a2, a3⟩ := FloatW.from_some hb e
          refine ⟨by simp [goodV, a1], ?_, ⟨by show _ ≤ (0 : Int); decide, by show (0 : Int) ≤ _; decide⟩, a3⟩
          show 3 :: r = (3 :: eightL (bitsF f)) ++ r.drop 8
          rw [a2, eight_num h8, List.cons_append, List.take_append_drop]
    rw [if_neg h3] at h
    by_cases h4 : c = 4
    · rw [if_pos h4] at h; subst h4
      cases e : textL r with
      | none => rw [e] at h; cases h
      | some x =>
        rw [e] at h
        simp only [Option.bind_some] at h
        split at h
        · rename_i hl
          cases h
          refine ⟨by simp [goodV]; exact hl, ?_, ⟨by show _ ≤ (0 : Int); decide, by show (0 : Int) ≤ _; decide⟩, by show 0 < _; decide⟩
          show 4 :: r = (4 :: (escL x.1 ++ [0, 1])) ++ x.2
          rw [esc_text r x.1 x.2 (by rw [e])]
          simp
        · cases h
    rw [if_neg h4] at h; cases h

theorem keyL_pos (k n : Int) (f : Nat) (l : List UInt8) : 0 < (keyL k n f l).length := by
  unfold keyL
  split
  · simp
  · split
    · simp
    · split
      · simp
      · split <;> simp

theorem esc_length (l : List UInt8) : (escL l).length ≤ 2 * l.length := by
  induction l with
  | nil => simp [escL]
  | cons c l ih => simp only [escL]; split <;> simp <;> omega

theorem keyL_length {k n : Int} {f : Nat} {l : List UInt8} : (keyL k n f l).length ≤ 2 * l.length + 9 := by
  have := esc_length l
  unfold keyL
  split
  · simp
  · split
    · simp [eight_length]
    · split
      · simp [eight_length]
      · split <;> simp <;> omega

end KeyW
end Go.Proofs.YtecmppmkidefmaaDoor
