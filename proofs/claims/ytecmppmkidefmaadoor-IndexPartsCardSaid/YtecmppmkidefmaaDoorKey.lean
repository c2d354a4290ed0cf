/-
  Plain facts on keys: values as bytes that stand in their order. No program here.
-/
import Derived.Test.YtecmppmkidefmaaDoorFloat
import GoSem.Op.String
namespace Go.Proofs.YtecmppmkidefmaaDoor

/-- Is a value good? -/
def goodV (k n : Int) (f : Nat) (l : List UInt8) : Bool :=
  if k = 0 then decide (n = 0) && decide (f = 0) && l.isEmpty
  else if k = 1 then (decide (n = 0) || decide (n = 1)) && decide (f = 0) && l.isEmpty
  else if k = 2 then decide (f = 0) && l.isEmpty
  else if k = 3 then decide (n = 0) && isF f && l.isEmpty
  else if k = 4 then decide (n = 0) && decide (f = 0) && decide (l.length ≤ 256)
  else false

/-- A number's bytes, the highest first. -/
def eightL (u : Nat) : List UInt8 :=
  [(u / 72057594037927936 % 256).toUInt8, (u / 281474976710656 % 256).toUInt8, (u / 1099511627776 % 256).toUInt8, (u / 4294967296 % 256).toUInt8,
   (u / 16777216 % 256).toUInt8, (u / 65536 % 256).toUInt8, (u / 256 % 256).toUInt8, (u % 256).toUInt8]

/-- The number of bytes, the highest first. -/
def numL (l : List UInt8) : Nat := l.foldl (fun u b => u * 256 + b.toNat) 0

def escL : List UInt8 → List UInt8
  | [] => []
  | c :: l => if c = 0 then 0 :: 255 :: escL l else c :: escL l

/-- A value's key. -/
def keyL (k n : Int) (f : Nat) (l : List UInt8) : List UInt8 :=
  if k = 1 then [1, n.toNat.toUInt8]
  else if k = 2 then 2 :: eightL (n + 9223372036854775808).toNat
  else if k = 3 then 3 :: eightL (bitsF f)
  else if k = 4 then 4 :: (escL l ++ [0, 1])
  else [k.toNat.toUInt8]

/-- An entry's key. -/
def entryL (k n : Int) (f : Nat) (l : List UInt8) (t : Nat) : List UInt8 := keyL k n f l ++ [(t / 256).toUInt8, (t % 256).toUInt8]

/-- The text with whose key bytes begin, and the rest. -/
def textL : List UInt8 → Option (List UInt8 × List UInt8)
  | [] => none
  | [_] => none
  | c :: d :: r => if c = 0 then (if d = 1 then some ([], r) else if d = 255 then (textL r).map fun x => (0 :: x.1, x.2) else none) else (textL (d :: r)).map fun x => (c :: x.1, x.2)

structure Val where
  k : Int
  n : Int
  f : Nat
  l : List UInt8

/-- The value with whose key bytes begin, and the rest. -/
def firstL : List UInt8 → Option (Val × List UInt8)
  | [] => none
  | c :: r =>
    if c = 0 then some (⟨0, 0, 0, []⟩, r)
    else if c = 1 then (match r with
      | [] => none
      | b :: r' => if b ≤ 1 then some (⟨1, b.toNat, 0, []⟩, r') else none)
    else if c = 2 then (if r.length < 8 then none else some (⟨2, (numL (r.take 8) : Int) - 9223372036854775808, 0, []⟩, r.drop 8))
    else if c = 3 then (if r.length < 8 then none else (fromF (numL (r.take 8))).map fun f => (⟨3, 0, f, []⟩, r.drop 8))
    else if c = 4 then (textL r).bind fun x => if x.1.length ≤ 256 then some (⟨4, 0, 0, x.1⟩, x.2) else none
    else none

def cmpI (a b : Int) : Int := if a < b then -1 else if b < a then 1 else 0
def cmpL (a b : List UInt8) : Int := if Op.bytesLess a b then -1 else if Op.bytesLess b a then 1 else 0
/-- By kind, number, float, text. -/
def cmpV (k n : Int) (f : Nat) (l : List UInt8) (k' n' : Int) (f' : Nat) (l' : List UInt8) : Int :=
  if k < k' then -1 else if k' < k then 1 else if n < n' then -1 else if n' < n then 1 else if cmpF f f' ≠ 0 then cmpF f f' else cmpL l l'

namespace KeyW
open Op

theorem less_irrefl (l : List UInt8) : bytesLess l l = false := by
  induction l with
  | nil => rfl
  | cons a l ih => simp [bytesLess, ih]

theorem less_cons (a b : UInt8) (x y : List UInt8) : bytesLess (a :: x) (b :: y) = (decide (a < b) || (a == b && bytesLess x y)) := rfl

theorem less_trans {a b c : List UInt8} (h : bytesLess a b = true) (k : bytesLess b c = true) : bytesLess a c = true := by
  induction a generalizing b c with
  | nil =>
    cases b with
    | nil => cases h
    | cons b y =>
      cases c with
      | nil => cases k
      | cons c z => rfl
  | cons a x ih =>
    cases b with
    | nil => cases h
    | cons b y =>
      cases c with
      | nil => cases k
      | cons c z =>
        simp only [less_cons, Bool.or_eq_true, decide_eq_true_eq, Bool.and_eq_true, beq_iff_eq] at h k ⊢
        rcases h with h | ⟨rfl, h⟩
        · rcases k with k | ⟨rfl, k⟩
          · exact Or.inl (UInt8.lt_trans h k)
          · exact Or.inl h
        · rcases k with k | ⟨rfl, k⟩
          · exact Or.inl k
          · exact Or.inr ⟨rfl, ih h k⟩

theorem less_asymm {a b : List UInt8} (h : bytesLess a b = true) : bytesLess b a = false := by
  cases k : bytesLess b a with
  | false => rfl
  | true => have := less_trans h k; rw [less_irrefl] at this; cases this

theorem less_total (a b : List UInt8) : bytesLess a b = true ∨ a = b ∨ bytesLess b a = true := by
  induction a generalizing b with
  | nil => cases b with
    | nil => exact Or.inr (Or.inl rfl)
    | cons b y => exact Or.inl rfl
  | cons a x ih =>
    cases b with
    | nil => exact Or.inr (Or.inr rfl)
    | cons b y =>
      simp only [less_cons, Bool.or_eq_true, decide_eq_true_eq, Bool.and_eq_true, beq_iff_eq]
      rcases ih y with h | h | h
      · by_cases e : a = b
        · exact Or.inl (Or.inr ⟨e, h⟩)
        · rcases UInt8.lt_or_lt_of_ne e with e | e
          · exact Or.inl (Or.inl e)
          · exact Or.inr (Or.inr (Or.inl e))
      · by_cases e : a = b
        · subst e; subst h; exact Or.inr (Or.inl rfl)
        · rcases UInt8.lt_or_lt_of_ne e with e | e
          · exact Or.inl (Or.inl e)
          · exact Or.inr (Or.inr (Or.inl e))
      · by_cases e : a = b
        · exact Or.inr (Or.inr (Or.inr ⟨e.symm, h⟩))
        · rcases UInt8.lt_or_lt_of_ne e with e | e
          · exact Or.inl (Or.inl e)
          · exact Or.inr (Or.inr (Or.inl e))

theorem less_prefix (p x y : List UInt8) : bytesLess (p ++ x) (p ++ y) = bytesLess x y := by
  induction p with
  | nil => rfl
  | cons a p ih => simp [less_cons, ih, UInt8.lt_irrefl]

/-- One begins below the other, whatever comes behind. -/
def Sep (a b : List UInt8) : Prop := ∀ x y, bytesLess (a ++ x) (b ++ y) = true

theorem Sep.cons {a b : List UInt8} (c : UInt8) (h : Sep a b) : Sep (c :: a) (c :: b) := fun x y => by
  have := h x y
  simp [less_cons, this]

theorem Sep.head {c d : UInt8} (h : c < d) (a b : List UInt8) : Sep (c :: a) (d :: b) := fun x y => by
  simp [less_cons, h]

theorem Sep.app {a b : List UInt8} (h : Sep a b) (x y : List UInt8) : Sep (a ++ x) (b ++ y) := fun u v => by
  rw [List.append_assoc, List.append_assoc]; exact h _ _

theorem Sep.less {a b : List UInt8} (h : Sep a b) : bytesLess a b = true := by
  have := h [] []; rwa [List.append_nil, List.append_nil] at this

theorem Sep.not_prefix {a b : List UInt8} (h : Sep a b) : ¬ a <+: b := fun ⟨x, e⟩ => by
  have := h x []
  rw [List.append_nil, e, less_irrefl] at this; cases this

theorem Sep.not_prefix' {a b : List UInt8} (h : Sep a b) : ¬ b <+: a := fun ⟨x, e⟩ => by
  have := h [] x
  rw [List.append_nil, e, less_irrefl] at this; cases this

theorem u8_lt (a b : Nat) (ha : a < 256) (hb : b < 256) : (a.toUInt8 < b.toUInt8) ↔ a < b := by
  rw [UInt8.lt_iff_toNat_lt]; simp; omega

theorem u8_inj (a b : Nat) (ha : a < 256) (hb : b < 256) : (a.toUInt8 = b.toUInt8) ↔ a = b := by
  rw [← UInt8.toNat_inj]; simp; omega

theorem Sep.byte {p q : Nat} (hp : p < 256) (hq : q < 256) {a b : List UInt8} (h : p < q ∨ (p = q ∧ Sep a b)) : Sep (p.toUInt8 :: a) (q.toUInt8 :: b) := by
  rcases h with h | ⟨rfl, h⟩
  · exact Sep.head ((u8_lt p q hp hq).2 h) _ _
  · exact h.cons _

theorem eight_sep (u v : Nat) (hv : v < 18446744073709551616) (h : u < v) : Sep (eightL u) (eightL v) := by
  unfold eightL
  refine Sep.byte (by omega) (by omega) ?_
  by_cases e : u / 72057594037927936 % 256 = v / 72057594037927936 % 256
  · refine Or.inr ⟨e, Sep.byte (by omega) (by omega) ?_⟩
    by_cases e2 : u / 281474976710656 % 256 = v / 281474976710656 % 256
    · refine Or.inr ⟨e2, Sep.byte (by omega) (by omega) ?_⟩
      by_cases e3 : u / 1099511627776 % 256 = v / 1099511627776 % 256
      · refine Or.inr ⟨e3, Sep.byte (by omega) (by omega) ?_⟩
        by_cases e4 : u / 4294967296 % 256 = v / 4294967296 % 256
        · refine Or.inr ⟨e4, Sep.byte (by omega) (by omega) ?_⟩
          by_cases e5 : u / 16777216 % 256 = v / 16777216 % 256
          · refine Or.inr ⟨e5, Sep.byte (by omega) (by omega) ?_⟩
            by_cases e6 : u / 65536 % 256 = v / 65536 % 256
            · refine Or.inr ⟨e6, Sep.byte (by omega) (by omega) ?_⟩
              by_cases e7 : u / 256 % 256 = v / 256 % 256
              · exact Or.inr ⟨e7, Sep.byte (by omega) (by omega) (Or.inl (by omega))⟩
              · exact Or.inl (by omega)
            · exact Or.inl (by omega)
          · exact Or.inl (by omega)
        · exact Or.inl (by omega)
      · exact Or.inl (by omega)
    · exact Or.inl (by omega)
  · exact Or.inl (by omega)

theorem u8_zero_or (c : UInt8) : c = 0 ∨ 0 < c := by
  by_cases h : c = 0
  · exact Or.inl h
  · refine Or.inr ?_
    rw [UInt8.lt_iff_toNat_lt]
    have : c.toNat ≠ 0 := fun e => h (UInt8.toNat_inj.1 (by simpa using e))
    simp; omega

theorem esc_sep (s t : List UInt8) (h : bytesLess s t = true) : Sep (escL s ++ [0, 1]) (escL t ++ [0, 1]) := by
  induction s generalizing t with
  | nil =>
    cases t with
    | nil => cases h
    | cons c t =>
      rcases u8_zero_or c with rfl | hc
      · show Sep [0, 1] (0 :: 255 :: (escL t ++ [0, 1]))
        exact (Sep.head (by decide) _ _).cons _
      · have e : c ≠ 0 := fun e => by subst e; exact absurd hc (by decide)
        simp only [escL, if_neg e]
        exact Sep.head hc _ _
  | cons a s ih =>
    cases t with
    | nil => cases h
    | cons b t =>
      simp only [less_cons, Bool.or_eq_true, decide_eq_true_eq, Bool.and_eq_true, beq_iff_eq] at h
      rcases h with h | ⟨rfl, h⟩
      · have hb : b ≠ 0 := fun e => by subst e; exact absurd h (by rw [UInt8.lt_iff_toNat_lt]; simp)
        rcases u8_zero_or a with rfl | ha
        · simp only [escL, if_neg hb, if_true]
          exact Sep.head h _ _
        · have e : a ≠ 0 := fun e => by subst e; exact absurd ha (by decide)
          simp only [escL, if_neg e, if_neg hb]
          exact Sep.head h _ _
      · rcases u8_zero_or a with rfl | ha
        · simp only [escL, if_true]
          exact ((ih t h).cons _).cons _
        · have e : a ≠ 0 := fun e => by subst e; exact absurd ha (by decide)
          simp only [escL, if_neg e]
          exact (ih t h).cons _

/-- What a good value's fields are. -/
theorem good_cases {k n : Int} {f : Nat} {l : List UInt8} (h : goodV k n f l = true) :
    (k = 0 ∧ n = 0 ∧ f = 0 ∧ l = []) ∨ (k = 1 ∧ (n = 0 ∨ n = 1) ∧ f = 0 ∧ l = []) ∨ (k = 2 ∧ f = 0 ∧ l = []) ∨ (k = 3 ∧ n = 0 ∧ isF f = true ∧ l = []) ∨ (k = 4 ∧ n = 0 ∧ f = 0 ∧ l.length ≤ 256) := by
  unfold goodV at h
  by_cases h0 : k = 0
  · rw [if_pos h0] at h; simp at h; exact Or.inl ⟨h0, h.1.1, h.1.2, h.2⟩
  rw [if_neg h0] at h
  by_cases h1 : k = 1
  · rw [if_pos h1] at h; simp at h; exact Or.inr (Or.inl ⟨h1, h.1.1, h.1.2, h.2⟩)
  rw [if_neg h1] at h
  by_cases h2 : k = 2
  · rw [if_pos h2] at h; simp at h; exact Or.inr (Or.inr (Or.inl ⟨h2, h.1, h.2⟩))
  rw [if_neg h2] at h
  by_cases h3 : k = 3
  · rw [if_pos h3] at h; simp at h
    exact Or.inr (Or.inr (Or.inr (Or.inl ⟨h3, h.1.1, h.1.2, h.2⟩)))
  rw [if_neg h3] at h
  by_cases h4 : k = 4
  · rw [if_pos h4] at h; simp at h; omega
  rw [if_neg h4] at h; cases h

theorem cmpL_eq (a b : List UInt8) : cmpL a b = 0 ↔ a = b := by
  unfold cmpL
  rcases less_total a b with h | h | h
  · rw [if_pos h]
    constructor
    · intro e; omega
    · intro e; subst e; rw [less_irrefl] at h; cases h
  · subst h; simp [less_irrefl]
  · rw [less_asymm h, h]
    constructor
    · intro e; simp at e
    · intro e; subst e; rw [less_irrefl] at h; cases h

/-- THE ORDER OF KEYS: good values stand as their keys do, whatever comes behind; alike just where they are one. -/
theorem key_sep {k n : Int} {f : Nat} {l : List UInt8} {k' n' : Int} {f' : Nat} {l' : List UInt8} (h : goodV k n f l = true) (h' : goodV k' n' f' l' = true)
    (hn : -9223372036854775808 ≤ n ∧ n ≤ 9223372036854775807) (hn' : -9223372036854775808 ≤ n' ∧ n' ≤ 9223372036854775807)
    (hf : f < 18446744073709551616) (hf' : f' < 18446744073709551616) :
    (cmpV k n f l k' n' f' l' < 0 ∧ Sep (keyL k n f l) (keyL k' n' f' l')) ∨ (cmpV k n f l k' n' f' l' = 0 ∧ k = k' ∧ n = n' ∧ f = f' ∧ l = l') ∨
    (0 < cmpV k n f l k' n' f' l' ∧ Sep (keyL k' n' f' l') (keyL k n f l)) := by
  have g := good_cases h
  have g' := good_cases h'
  have head : ∀ {k n : Int} {f : Nat} {l : List UInt8}, ((k = 0 ∧ n = 0 ∧ f = 0 ∧ l = []) ∨ (k = 1 ∧ (n = 0 ∨ n = 1) ∧ f = 0 ∧ l = []) ∨ (k = 2 ∧ f = 0 ∧ l = []) ∨ (k = 3 ∧ n = 0 ∧ isF f = true ∧ l = []) ∨ (k = 4 ∧ n = 0 ∧ f = 0 ∧ l.length ≤ 256)) →
      ∃ r, keyL k n f l = k.toNat.toUInt8 :: r ∧ 0 ≤ k ∧ k ≤ 4 := by
    intro k n f l g
    rcases g with ⟨rfl, _⟩ | ⟨rfl, _⟩ | ⟨rfl, _⟩ | ⟨rfl, _⟩ | ⟨rfl, _⟩ <;> exact ⟨_, rfl, by omega, by omega⟩
  obtain ⟨r, e, b1, b2⟩ := head g
  obtain ⟨r', e', b1', b2'⟩ := head g'
  unfold cmpV
  rcases Int.lt_trichotomy k k' with c | c | c
  · rw [if_pos c]
    refine Or.inl ⟨by omega, ?_⟩
    rw [e, e']
    exact Sep.head ((u8_lt _ _ (by omega) (by omega)).2 (by omega)) _ _
  · clear e e' r r' head b1 b2 b1' b2'
    subst c
    rw [if_neg (by omega), if_neg (by omega)]
    have c0 : cmpF 0 0 = 0 := by decide
    have l0 : cmpL [] [] = 0 := by decide
    rcases g with ⟨rfl, rfl, rfl, rfl⟩ | ⟨rfl, a, rfl, rfl⟩ | ⟨rfl, rfl, rfl⟩ | ⟨rfl, rfl, a, rfl⟩ | ⟨rfl, rfl, rfl, a⟩
    · rcases g' with ⟨_, rfl, rfl, rfl⟩ | ⟨c, _⟩ | ⟨c, _⟩ | ⟨c, _⟩ | ⟨c, _⟩ <;> first | (exact absurd c (by decide)) | skip
      rw [c0, l0]; exact Or.inr (Or.inl ⟨by simp, rfl, rfl, rfl, rfl⟩)
    · rcases g' with ⟨c, _⟩ | ⟨_, a', rfl, rfl⟩ | ⟨c, _⟩ | ⟨c, _⟩ | ⟨c, _⟩ <;> first | (exact absurd c (by decide)) | skip
      rw [c0, l0]
      rcases a with rfl | rfl <;> rcases a' with rfl | rfl
      · exact Or.inr (Or.inl ⟨by simp, rfl, rfl, rfl, rfl⟩)
      · exact Or.inl ⟨by simp, (Sep.head (by decide) _ _).cons _⟩
      · exact Or.inr (Or.inr ⟨by simp, (Sep.head (by decide) _ _).cons _⟩)
      · exact Or.inr (Or.inl ⟨by simp, rfl, rfl, rfl, rfl⟩)
    · rcases g' with ⟨c, _⟩ | ⟨c, _⟩ | ⟨_, rfl, rfl⟩ | ⟨c, _⟩ | ⟨c, _⟩ <;> first | (exact absurd c (by decide)) | skip
      rw [c0, l0]
      have sp : ∀ a b : Int, -9223372036854775808 ≤ a → b ≤ 9223372036854775807 → a < b → Sep (keyL 2 a 0 []) (keyL 2 b 0 []) := fun a b h1 h2 h3 => (eight_sep _ _ (by omega) (by omega)).cons 2
      rcases Int.lt_trichotomy n n' with d | d | d
      · rw [if_pos d]; exact Or.inl ⟨by omega, sp n n' hn.1 hn'.2 d⟩
      · subst d; rw [if_neg (by omega), if_neg (by omega)]; exact Or.inr (Or.inl ⟨by simp, rfl, rfl, rfl, rfl⟩)
      · rw [if_neg (by omega), if_pos d]; exact Or.inr (Or.inr ⟨by omega, sp n' n hn'.1 hn.2 d⟩)
    · rcases g' with ⟨c, _⟩ | ⟨c, _⟩ | ⟨c, _⟩ | ⟨_, rfl, a', rfl⟩ | ⟨c, _⟩ <;> first | (exact absurd c (by decide)) | skip
      rw [if_neg (by omega), if_neg (by omega), l0]
      have sp : ∀ a b : Nat, b < 18446744073709551616 → bitsF a < bitsF b → Sep (keyL 3 0 a []) (keyL 3 0 b []) := fun a b h1 h2 => (eight_sep _ _ (FloatW.bits_lt b h1) h2).cons 3
      rcases FloatW.cmp_bits f f' hf hf' a a' with ⟨c, d⟩ | ⟨c, d⟩ | ⟨c, d⟩
      · rw [if_pos (by omega)]; exact Or.inl ⟨c, sp f f' hf' d⟩
      · rw [if_neg (by omega)]; exact Or.inr (Or.inl ⟨rfl, rfl, rfl, d, rfl⟩)
      · rw [if_pos (by omega)]; exact Or.inr (Or.inr ⟨c, sp f' f hf d⟩)
    · rcases g' with ⟨c, _⟩ | ⟨c, _⟩ | ⟨c, _⟩ | ⟨c, _⟩ | ⟨_, rfl, rfl, a'⟩ <;> first | (exact absurd c (by decide)) | skip
      rw [c0, if_neg (by omega), if_neg (by omega), if_neg (by simp)]
      unfold cmpL
      rcases less_total l l' with d | d | d
      · rw [if_pos d]; exact Or.inl ⟨by omega, (esc_sep l l' d).cons 4⟩
      · subst d; simp [less_irrefl]
      · rw [less_asymm d, d]; exact Or.inr (Or.inr ⟨by simp, (esc_sep l' l d).cons 4⟩)
  · rw [if_neg (by omega), if_pos c]
    refine Or.inr (Or.inr ⟨by omega, ?_⟩)
    rw [e, e']
    exact Sep.head ((u8_lt _ _ (by omega) (by omega)).2 (by omega)) _ _

end KeyW
end Go.Proofs.YtecmppmkidefmaaDoor
