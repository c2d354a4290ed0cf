/-
  Plain facts on leaves of keys in order: putting in, taking out, what lies between two. No program here.
-/
import Derived.Test.YtecmppmkidefmaaDoorKey
import Derived.Lib.Strings
namespace Go.Proofs.YtecmppmkidefmaaDoor.LeafW
open Go

/-- The order of texts. -/
def lt (a b : ByteArray) : Bool := Op.bytesLess a.toList b.toList

theorem ext {a b : ByteArray} (h : a.toList = b.toList) : a = b := by
  rw [Lib.toList_data, Lib.toList_data] at h
  cases a; cases b
  exact congrArg ByteArray.mk (Array.toList_inj.1 h)
theorem lt_irrefl (a : ByteArray) : lt a a = false := KeyW.less_irrefl _
theorem lt_trans {a b c : ByteArray} (h : lt a b = true) (k : lt b c = true) : lt a c = true := KeyW.less_trans h k
theorem lt_asymm {a b : ByteArray} (h : lt a b = true) : lt b a = false := KeyW.less_asymm h
theorem lt_total (a b : ByteArray) : lt a b = true ∨ a = b ∨ lt b a = true := by
  rcases KeyW.less_total a.toList b.toList with h | h | h
  · exact .inl h
  · exact .inr (.inl (ext h))
  · exact .inr (.inr h)
/-- a < b ≤ c. -/
theorem lt_le {a b c : ByteArray} (h : lt a b = true) (k : lt c b = false) : lt a c = true := by
  rcases lt_total b c with e | rfl | e
  · exact lt_trans h e
  · exact h
  · rw [e] at k; cases k
/-- a ≤ b < c. -/
theorem le_lt {a b c : ByteArray} (h : lt b a = false) (k : lt b c = true) : lt a c = true := by
  rcases lt_total a b with e | rfl | e
  · exact lt_trans e k
  · exact k
  · rw [e] at h; cases h
/-- a ≤ b ≤ c. -/
theorem le_trans {a b c : ByteArray} (h : lt b a = false) (k : lt c b = false) : lt c a = false := by
  cases e : lt c a
  · rfl
  · have := lt_le e h; rw [this] at k; cases k
theorem lt_ne {a b : ByteArray} (h : lt a b = true) : a ≠ b := fun e => by subst e; rw [lt_irrefl] at h; cases h
theorem lt_empty (a : ByteArray) : lt a ⟨#[]⟩ = false := by
  unfold lt
  rw [show (⟨#[]⟩ : ByteArray).toList = [] from ByteArray.toList_mk []]
  cases a.toList <;> rfl

/-- A leaf: its number, its bound (the first one's is the empty text), its keys. -/
structure Leaf where
  n : Int
  b : ByteArray
  ks : List ByteArray
/-- Leaves: the greatest number of keys, the next number, the leaves. -/
structure St where
  fan : Nat
  next : Nat
  l : List Leaf

instance : DecidableEq ByteArray := fun a b => if h : a.data = b.data then .isTrue (by cases a; cases b; exact congrArg ByteArray.mk h) else .isFalse (fun e => h (e ▸ rfl))

instance memDec (k : ByteArray) (ks : List ByteArray) : Decidable (k ∈ ks) := decidable_of_iff (∃ a ∈ ks, a = k) ⟨fun ⟨_, h, e⟩ => e ▸ h, fun h => ⟨k, h, rfl⟩⟩

abbrev Srt (ks : List ByteArray) : Prop := ks.Pairwise (fun a b => lt a b = true)

def atGo (k : ByteArray) : List Leaf → Nat → Nat
  | [], i => i
  | y :: r, i => if lt k y.b then i else atGo k r (i + 1)
/-- Where a key's leaf stands. -/
def atL (l : List Leaf) (k : ByteArray) : Nat := atGo k l.tail 0

structure Inv (l : List Leaf) : Prop where
  ne : l ≠ []
  first : ∀ y, l.head? = some y → y.b = ⟨#[]⟩
  up : l.Pairwise (fun y z => lt y.b z.b = true)
  srt : ∀ y ∈ l, Srt y.ks
  below : l.Pairwise (fun y z => ∀ k ∈ y.ks, lt k z.b = true)
  above : ∀ z ∈ l, ∀ k ∈ z.ks, lt k z.b = false

theorem go_split (k : ByteArray) : ∀ (r : List Leaf) (pre : List Leaf) (y : Leaf), lt k y.b = false → (y :: r).Pairwise (fun y z => lt y.b z.b = true) →
    ∃ pre' y' post', pre ++ y :: r = pre' ++ y' :: post' ∧ atGo k r pre.length = pre'.length ∧ lt k y'.b = false ∧ ∀ z ∈ post', lt k z.b = true
  | [], pre, y, hy, _ => ⟨pre, y, [], rfl, rfl, hy, fun _ h => by cases h⟩
  | z :: r, pre, y, hy, hu => by
    have hu' := (List.pairwise_cons.1 hu).2
    cases hz : lt k z.b
    · obtain ⟨pre', y', post', e, ha, h1, h2⟩ := go_split k r (pre ++ [y]) z hz hu'
      refine ⟨pre', y', post', by rw [← e]; simp, ?_, h1, h2⟩
      rw [← ha]; simp [atGo, hz]
    · refine ⟨pre, y, z :: r, rfl, by simp [atGo, hz], hy, fun x hx => ?_⟩
      rcases List.mem_cons.1 hx with rfl | hx
      · exact hz
      · exact lt_trans hz ((List.pairwise_cons.1 hu').1 x hx)

theorem at_split {l : List Leaf} (h : Inv l) (k : ByteArray) : ∃ pre y post, l = pre ++ y :: post ∧ atL l k = pre.length ∧ lt k y.b = false ∧ ∀ z ∈ post, lt k z.b = true := by
  match l, h with
  | [], h => exact absurd rfl h.ne
  | y :: r, h =>
    have hb : lt k y.b = false := by rw [h.first y rfl]; exact lt_empty k
    exact go_split k r [] y hb h.up

theorem at_lt {l : List Leaf} (h : Inv l) (k : ByteArray) : atL l k < l.length := by
  obtain ⟨pre, y, post, rfl, e, _⟩ := at_split h k
  rw [e]; simp

/-- What all leaves hold, in order. -/
def content (l : List Leaf) : List ByteArray := l.flatMap (·.ks)

theorem content_app (a b : List Leaf) : content (a ++ b) = content a ++ content b := by simp [content]
theorem content_cons (y : Leaf) (b : List Leaf) : content (y :: b) = y.ks ++ content b := by simp [content]
theorem mem_content {l : List Leaf} {k : ByteArray} : k ∈ content l ↔ ∃ y ∈ l, k ∈ y.ks := by simp [content]

theorem inv_srt : ∀ {l : List Leaf}, (∀ y ∈ l, Srt y.ks) → l.Pairwise (fun y z => ∀ k ∈ y.ks, lt k z.b = true) → (∀ z ∈ l, ∀ k ∈ z.ks, lt k z.b = false) → Srt (content l)
  | [], _, _, _ => List.Pairwise.nil
  | y :: r, hs, hb, ha => by
    rw [content_cons]
    have hb' := List.pairwise_cons.1 hb
    refine List.pairwise_append.2 ⟨hs y (by simp), inv_srt (fun z hz => hs z (by simp [hz])) hb'.2 (fun z hz => ha z (by simp [hz])), fun a ha' b hb'' => ?_⟩
    obtain ⟨z, hz, hk⟩ := mem_content.1 hb''
    exact lt_le (hb'.1 z hz a ha') (ha z (by simp [hz]) b hk)
theorem Inv.content_srt {l : List Leaf} (h : Inv l) : Srt (content l) := inv_srt h.srt h.below h.above

/-- A key stands on its own leaf or nowhere. -/
theorem mem_at {l : List Leaf} (h : Inv l) {k : ByteArray} {pre post : List Leaf} {y : Leaf} (e : l = pre ++ y :: post) (h1 : lt k y.b = false) (h2 : ∀ z ∈ post, lt k z.b = true) : k ∈ content l ↔ k ∈ y.ks := by
  constructor
  · intro hk
    subst e
    obtain ⟨z, hz, hm⟩ := mem_content.1 hk
    rcases List.mem_append.1 hz with hz | hz
    · have := (List.pairwise_append.1 h.below).2.2 z hz y (by simp) k hm
      rw [this] at h1; cases h1
    · rcases List.mem_cons.1 hz with rfl | hz
      · exact hm
      · have h3 := h.above z (by simp [hz]) k hm
        rw [h2 z hz] at h3; cases h3
  · intro hk; subst e; exact mem_content.2 ⟨y, by simp, hk⟩

/-- Where a key stands, or would stand. -/
def pos (ks : List ByteArray) (k : ByteArray) : Nat := (ks.takeWhile fun a => lt a k).length
theorem pos_le (ks : List ByteArray) (k : ByteArray) : pos ks k ≤ ks.length := (List.takeWhile_sublist _).length_le
theorem of_takeWhile {p : ByteArray → Bool} : ∀ {l : List ByteArray} {a : ByteArray}, a ∈ l.takeWhile p → p a = true
  | [], a, h => by cases h
  | x :: r, a, h => by
    rw [List.takeWhile_cons] at h
    cases hx : p x
    · rw [hx] at h; simp at h
    · rw [hx] at h
      rcases List.mem_cons.1 h with rfl | h
      · exact hx
      · exact of_takeWhile h
theorem pos_take (ks : List ByteArray) (k : ByteArray) : ∀ a ∈ ks.take (pos ks k), lt a k = true := by
  intro a ha
  rw [pos, ← List.prefix_iff_eq_take.1 (List.takeWhile_prefix _)] at ha
  exact of_takeWhile (p := fun a => lt a k) ha
theorem pos_drop {ks : List ByteArray} (h : Srt ks) (k : ByteArray) : ∀ a ∈ ks.drop (pos ks k), lt a k = false := by
  induction ks with
  | nil => intro a ha; simp at ha
  | cons x r ih =>
    have h' := List.pairwise_cons.1 h
    intro a ha
    unfold pos at ha
    rw [List.takeWhile_cons] at ha
    cases hx : lt x k
    · rw [hx] at ha
      simp only [Bool.false_eq_true, if_false, List.length_nil, List.drop_zero] at ha
      rcases List.mem_cons.1 ha with rfl | ha
      · exact hx
      · cases hk : lt a k
        · rfl
        · have := lt_trans (h'.1 a ha) hk; rw [this] at hx; cases hx
    · rw [hx] at ha
      simp only [if_true, List.length_cons, List.drop_succ_cons] at ha
      exact ih h'.2 a ha
/-- The least place at which nothing below the key stands: it is the only one. -/
theorem pos_eq {ks : List ByteArray} (h : Srt ks) (k : ByteArray) (p : Nat) (hp : p ≤ ks.length) (h1 : ∀ a ∈ ks.take p, lt a k = true) (h2 : ∀ a ∈ ks.drop p, lt a k = false) : pos ks k = p := by
  rcases Nat.lt_trichotomy (pos ks k) p with c | c | c
  · have hm : ks[pos ks k]'(by omega) ∈ ks.take p := by
      rw [List.mem_take_iff_getElem]; exact ⟨pos ks k, by omega, rfl⟩
    have hd : ks[pos ks k]'(by omega) ∈ ks.drop (pos ks k) := by
      rw [List.mem_drop_iff_getElem]; exact ⟨0, by omega, by simp⟩
    have := h1 _ hm; rw [pos_drop h k _ hd] at this; cases this
  · exact c
  · have hl := pos_le ks k
    have hm : ks[p]'(by omega) ∈ ks.take (pos ks k) := by
      rw [List.mem_take_iff_getElem]; exact ⟨p, by omega, rfl⟩
    have hd : ks[p]'(by omega) ∈ ks.drop p := by
      rw [List.mem_drop_iff_getElem]; exact ⟨0, by omega, by simp⟩
    have := pos_take ks k _ hm; rw [h2 _ hd] at this; cases this

/-- A key that stands among others stands at its place. -/
theorem pos_mem {ks : List ByteArray} (h : Srt ks) {k : ByteArray} (hk : k ∈ ks) : ∃ hp : pos ks k < ks.length, ks[pos ks k] = k := by
  obtain ⟨i, hi, rfl⟩ := List.mem_iff_getElem.1 hk
  have e : pos ks ks[i] = i := by
    refine pos_eq h _ i (by omega) (fun a ha => ?_) (fun a ha => ?_)
    · obtain ⟨j, hj, rfl⟩ := List.mem_take_iff_getElem.1 ha
      exact List.pairwise_iff_getElem.1 h j i (by omega) hi (by omega)
    · obtain ⟨j, hj, rfl⟩ := List.mem_drop_iff_getElem.1 ha
      rcases Nat.eq_zero_or_pos j with rfl | hj0
      · simpa using lt_irrefl _
      · exact lt_asymm (List.pairwise_iff_getElem.1 h i (i + j) hi (by omega) (by omega))
  refine ⟨by omega, by simp only [e]⟩
theorem pos_found {ks : List ByteArray} (h : Srt ks) (k : ByteArray) : k ∈ ks ↔ ∃ hp : pos ks k < ks.length, ks[pos ks k] = k :=
  ⟨pos_mem h, fun ⟨_, e⟩ => e ▸ List.getElem_mem _⟩

def insK (ks : List ByteArray) (k : ByteArray) : List ByteArray := ks.take (pos ks k) ++ k :: ks.drop (pos ks k)
def delK (ks : List ByteArray) (k : ByteArray) : List ByteArray := ks.take (pos ks k) ++ ks.drop (pos ks k + 1)

theorem mem_insK {ks : List ByteArray} {k x : ByteArray} : x ∈ insK ks k ↔ x = k ∨ x ∈ ks := by
  unfold insK
  constructor
  · intro h
    rcases List.mem_append.1 h with h | h
    · exact .inr (List.mem_of_mem_take h)
    · rcases List.mem_cons.1 h with h | h
      · exact .inl h
      · exact .inr (List.mem_of_mem_drop h)
  · rintro (rfl | h)
    · simp
    · rw [← List.take_append_drop (pos ks k) ks] at h
      rcases List.mem_append.1 h with h | h <;> simp [h]
theorem length_insK (ks : List ByteArray) (k : ByteArray) : (insK ks k).length = ks.length + 1 := by
  have := pos_le ks k
  unfold insK; simp; omega
theorem srt_insK {ks : List ByteArray} (h : Srt ks) {k : ByteArray} (hk : k ∉ ks) : Srt (insK ks k) := by
  have hd : ∀ a ∈ ks.drop (pos ks k), lt k a = true := fun a ha => by
    rcases lt_total k a with e | rfl | e
    · exact e
    · exact absurd (List.mem_of_mem_drop ha) hk
    · rw [pos_drop h k a ha] at e; cases e
  refine List.pairwise_append.2 ⟨h.sublist (List.take_sublist _ _), List.pairwise_cons.2 ⟨hd, h.sublist (List.drop_sublist _ _)⟩, fun a ha b hb => ?_⟩
  have h1 := pos_take ks k a ha
  rcases List.mem_cons.1 hb with rfl | hb
  · exact h1
  · exact lt_trans h1 (hd b hb)
theorem srt_delK {ks : List ByteArray} (h : Srt ks) (k : ByteArray) : Srt (delK ks k) := by
  refine h.sublist ?_
  unfold delK
  conv => rhs; rw [← List.take_append_drop (pos ks k) ks]
  exact (List.Sublist.refl _).append (by rw [← List.drop_drop]; exact List.drop_sublist _ _)
theorem mem_delK {ks : List ByteArray} (h : Srt ks) {k : ByteArray} (hk : k ∈ ks) {x : ByteArray} : x ∈ delK ks k ↔ x ≠ k ∧ x ∈ ks := by
  obtain ⟨hp, e⟩ := pos_mem h hk
  have hs : ks = ks.take (pos ks k) ++ k :: ks.drop (pos ks k + 1) := by
    conv => lhs; rw [← List.take_append_drop (pos ks k) ks, List.drop_eq_getElem_cons hp, e]
  constructor
  · intro hx
    unfold delK at hx
    refine ⟨?_, ?_⟩
    · rintro rfl
      rw [hs] at h
      have h' := List.pairwise_append.1 h
      rcases List.mem_append.1 hx with hx | hx
      · have := h'.2.2 x hx x (by simp); rw [lt_irrefl] at this; cases this
      · have := (List.pairwise_cons.1 h'.2.1).1 x hx; rw [lt_irrefl] at this; cases this
    · rcases List.mem_append.1 hx with hx | hx
      · exact List.mem_of_mem_take hx
      · exact List.mem_of_mem_drop hx
  · rintro ⟨hne, hx⟩
    rw [hs] at hx
    unfold delK
    rcases List.mem_append.1 hx with hx | hx
    · simp [hx]
    · rcases List.mem_cons.1 hx with rfl | hx
      · exact absurd rfl hne
      · simp [hx]
theorem length_delK {ks : List ByteArray} (h : Srt ks) {k : ByteArray} (hk : k ∈ ks) : (delK ks k).length + 1 = ks.length := by
  obtain ⟨hp, _⟩ := pos_mem h hk
  unfold delK; simp; omega

/-- A leaf's keys turned: those of before hold their place. -/
theorem Inv.put {pre post : List Leaf} {y : Leaf} (h : Inv (pre ++ y :: post)) (ks : List ByteArray) (hs : Srt ks) (hb : ∀ z ∈ post, ∀ k ∈ ks, lt k z.b = true) (ha : ∀ k ∈ ks, lt k y.b = false) :
    Inv (pre ++ { y with ks := ks } :: post) := by
  have u := List.pairwise_append.1 h.up
  have u' := List.pairwise_cons.1 u.2.1
  have b := List.pairwise_append.1 h.below
  have b' := List.pairwise_cons.1 b.2.1
  refine ⟨by simp, fun z hz => ?_, ?_, fun z hz => ?_, ?_, fun z hz => ?_⟩
  · cases pre with
    | nil => simp only [List.nil_append, List.head?_cons, Option.some.injEq] at hz; subst hz; exact h.first y rfl
    | cons x r => exact h.first z hz
  · exact List.pairwise_append.2 ⟨u.1, List.pairwise_cons.2 ⟨u'.1, u'.2⟩, fun a haa c hc => by
      rcases List.mem_cons.1 hc with rfl | hc
      · exact u.2.2 a haa y (by simp)
      · exact u.2.2 a haa c (by simp [hc])⟩
  · rcases List.mem_append.1 hz with hz | hz
    · exact h.srt z (by simp [hz])
    · rcases List.mem_cons.1 hz with rfl | hz
      · exact hs
      · exact h.srt z (by simp [hz])
  · exact List.pairwise_append.2 ⟨b.1, List.pairwise_cons.2 ⟨hb, b'.2⟩, fun a haa c hc => by
      rcases List.mem_cons.1 hc with rfl | hc
      · exact b.2.2 a haa y (by simp)
      · exact b.2.2 a haa c (by simp [hc])⟩
  · rcases List.mem_append.1 hz with hz | hz
    · exact h.above z (by simp [hz])
    · rcases List.mem_cons.1 hz with rfl | hz
      · exact ha
      · exact h.above z (by simp [hz])

/-- A leaf behind another one. -/
theorem Inv.split {pre post : List Leaf} {y z : Leaf} (h : Inv (pre ++ y :: post)) (hyz : lt y.b z.b = true) (hz : Srt z.ks) (hyk : ∀ k ∈ y.ks, lt k z.b = true) (hzp : ∀ w ∈ post, lt z.b w.b = true)
    (hb : ∀ w ∈ post, ∀ k ∈ z.ks, lt k w.b = true) (hab : ∀ k ∈ z.ks, lt k z.b = false) : Inv (pre ++ y :: z :: post) := by
  have u := List.pairwise_append.1 h.up
  have u' := List.pairwise_cons.1 u.2.1
  have b := List.pairwise_append.1 h.below
  have b' := List.pairwise_cons.1 b.2.1
  refine ⟨by simp, fun w hw => ?_, ?_, fun w hw => ?_, ?_, fun w hw => ?_⟩
  · cases pre with
    | nil => exact h.first w hw
    | cons x r => exact h.first w hw
  · refine List.pairwise_append.2 ⟨u.1, List.pairwise_cons.2 ⟨fun w hw => ?_, List.pairwise_cons.2 ⟨hzp, u'.2⟩⟩, fun a ha c hc => ?_⟩
    · rcases List.mem_cons.1 hw with rfl | hw
      · exact hyz
      · exact u'.1 w hw
    · rcases List.mem_cons.1 hc with rfl | hc
      · exact u.2.2 a ha c (by simp)
      · rcases List.mem_cons.1 hc with rfl | hc
        · exact lt_trans (u.2.2 a ha y (by simp)) hyz
        · exact u.2.2 a ha c (by simp [hc])
  · rcases List.mem_append.1 hw with hw | hw
    · exact h.srt w (by simp [hw])
    · rcases List.mem_cons.1 hw with rfl | hw
      · exact h.srt w (by simp)
      · rcases List.mem_cons.1 hw with rfl | hw
        · exact hz
        · exact h.srt w (by simp [hw])
  · refine List.pairwise_append.2 ⟨b.1, List.pairwise_cons.2 ⟨fun w hw => ?_, List.pairwise_cons.2 ⟨hb, b'.2⟩⟩, fun a ha c hc => ?_⟩
    · rcases List.mem_cons.1 hw with rfl | hw
      · exact hyk
      · exact b'.1 w hw
    · rcases List.mem_cons.1 hc with rfl | hc
      · exact b.2.2 a ha c (by simp)
      · rcases List.mem_cons.1 hc with rfl | hc
        · exact fun k hk => lt_trans (b.2.2 a ha y (by simp) k hk) hyz
        · exact b.2.2 a ha c (by simp [hc])
  · rcases List.mem_append.1 hw with hw | hw
    · exact h.above w (by simp [hw])
    · rcases List.mem_cons.1 hw with rfl | hw
      · exact h.above w (by simp)
      · rcases List.mem_cons.1 hw with rfl | hw
        · exact hab
        · exact h.above w (by simp [hw])

/-- The first leaf's bound is none. -/
def open0 : List Leaf → List Leaf
  | [] => []
  | y :: r => { y with b := ⟨#[]⟩ } :: r
theorem open0_length (l : List Leaf) : (open0 l).length = l.length := by cases l <;> rfl
theorem content_open0 (l : List Leaf) : content (open0 l) = content l := by cases l <;> rfl
theorem Inv.cut {pre post : List Leaf} {y : Leaf} (h : Inv (pre ++ y :: post)) (hne : pre ++ post ≠ []) : Inv (open0 (pre ++ post)) := by
  have hsub : (pre ++ post).Sublist (pre ++ y :: post) := (List.Sublist.refl _).append (List.sublist_cons_self _ _)
  cases pre with
  | nil =>
    cases post with
    | nil => exact absurd rfl hne
    | cons z r =>
      have u := (List.pairwise_cons.1 (List.pairwise_cons.1 h.up).2)
      have b := (List.pairwise_cons.1 (List.pairwise_cons.1 h.below).2)
      refine ⟨by simp [open0], fun w hw => ?_, ?_, fun w hw => ?_, ?_, fun w hw => ?_⟩
      · simp only [open0, List.nil_append, List.head?_cons, Option.some.injEq] at hw; subst hw; rfl
      · refine List.pairwise_cons.2 ⟨fun w hw => ?_, u.2⟩
        rcases lt_total ⟨#[]⟩ w.b with e | e | e
        · exact e
        · have := u.1 w hw; rw [← e, lt_empty] at this; cases this
        · rw [lt_empty] at e; cases e
      · rcases List.mem_cons.1 hw with rfl | hw
        · exact h.srt z (by simp)
        · exact h.srt w (by simp [hw])
      · exact List.pairwise_cons.2 ⟨b.1, b.2⟩
      · rcases List.mem_cons.1 hw with rfl | hw
        · exact fun k _ => lt_empty k
        · exact h.above w (by simp [hw])
  | cons x r =>
    have hx : x.b = ⟨#[]⟩ := h.first x rfl
    have e : open0 (x :: r ++ post) = x :: r ++ post := by
      show { x with b := ⟨#[]⟩ } :: (r ++ post) = _
      rw [← hx]; rfl
    rw [e]
    exact ⟨by simp, fun w hw => h.first w hw, h.up.sublist hsub, fun w hw => h.srt w (hsub.mem hw), h.below.sublist hsub, fun w hw => h.above w (hsub.mem hw)⟩

/-- What a change tells: the leaf, from which, into which, the error. -/
structure Ans where
  leaf : Int
  src : Int
  dst : Int
  e : Int

/-- A key more. -/
def ins (s : St) (k : ByteArray) : Ans × St :=
  match s.l[atL s.l k]? with
  | none => (⟨0, 0, 0, 1⟩, s)
  | some y =>
    if k ∈ y.ks then (⟨0, 0, 0, 62⟩, s)
    else if (insK y.ks k).length ≤ s.fan then (⟨y.n, 0, 0, 0⟩, { s with l := s.l.take (atL s.l k) ++ { y with ks := insK y.ks k } :: s.l.drop (atL s.l k + 1) })
    else (⟨if pos y.ks k < ((insK y.ks k).length + 1) / 2 then y.n else s.next, y.n, s.next, 0⟩,
      { s with next := s.next + 1, l := s.l.take (atL s.l k) ++ { y with ks := (insK y.ks k).take (((insK y.ks k).length + 1) / 2) } ::
        { n := s.next, b := (insK y.ks k).getD (((insK y.ks k).length + 1) / 2) ⟨#[]⟩, ks := (insK y.ks k).drop (((insK y.ks k).length + 1) / 2) } :: s.l.drop (atL s.l k + 1) })

/-- A key fewer. -/
def rem (s : St) (k : ByteArray) : Ans × St :=
  match s.l[atL s.l k]? with
  | none => (⟨0, 0, 0, 1⟩, s)
  | some y =>
    if k ∈ y.ks then
      if (delK y.ks k).length = 0 ∧ s.l.length ≠ 1 then
        (⟨y.n, y.n, ((open0 (s.l.take (atL s.l k) ++ s.l.drop (atL s.l k + 1)))[atL s.l k - 1]?.map (·.n)).getD 0, 0⟩, { s with l := open0 (s.l.take (atL s.l k) ++ s.l.drop (atL s.l k + 1)) })
      else (⟨y.n, 0, 0, 0⟩, { s with l := s.l.take (atL s.l k) ++ { y with ks := delK y.ks k } :: s.l.drop (atL s.l k + 1) })
    else (⟨0, 0, 0, 60⟩, s)

theorem at_here {pre post : List Leaf} {y : Leaf} : (pre ++ y :: post)[pre.length]? = some y ∧ (pre ++ y :: post).take pre.length = pre ∧ (pre ++ y :: post).drop (pre.length + 1) = post := by
  refine ⟨by simp, by simp, ?_⟩
  rw [List.drop_append]; simp

theorem ins_eq {s : St} {k : ByteArray} {pre post : List Leaf} {y : Leaf} (e : s.l = pre ++ y :: post) (ha : atL s.l k = pre.length) :
    ins s k = if k ∈ y.ks then (⟨0, 0, 0, 62⟩, s)
      else if (insK y.ks k).length ≤ s.fan then (⟨y.n, 0, 0, 0⟩, { s with l := pre ++ { y with ks := insK y.ks k } :: post })
      else (⟨if pos y.ks k < ((insK y.ks k).length + 1) / 2 then y.n else s.next, y.n, s.next, 0⟩,
        { s with next := s.next + 1, l := pre ++ { y with ks := (insK y.ks k).take (((insK y.ks k).length + 1) / 2) } ::
          { n := s.next, b := (insK y.ks k).getD (((insK y.ks k).length + 1) / 2) ⟨#[]⟩, ks := (insK y.ks k).drop (((insK y.ks k).length + 1) / 2) } :: post }) := by
  obtain ⟨h1, h2, h3⟩ := @at_here pre post y
  unfold ins
  rw [ha, e, h1, h2, h3]
theorem rem_eq {s : St} {k : ByteArray} {pre post : List Leaf} {y : Leaf} (e : s.l = pre ++ y :: post) (ha : atL s.l k = pre.length) :
    rem s k = if k ∈ y.ks then
      if (delK y.ks k).length = 0 ∧ (pre ++ y :: post).length ≠ 1 then (⟨y.n, y.n, ((open0 (pre ++ post))[pre.length - 1]?.map (·.n)).getD 0, 0⟩, { s with l := open0 (pre ++ post) })
      else (⟨y.n, 0, 0, 0⟩, { s with l := pre ++ { y with ks := delK y.ks k } :: post })
    else (⟨0, 0, 0, 60⟩, s) := by
  obtain ⟨h1, h2, h3⟩ := @at_here pre post y
  unfold rem
  rw [ha, e, h1, h2, h3]

/-- What a change leaves: leaves in order, and just the keys that it should. -/
theorem ins_ok {s : St} (h : Inv s.l) (hf : 2 ≤ s.fan) (k : ByteArray) :
    Inv (ins s k).2.l ∧ (ins s k).2.fan = s.fan ∧ (ins s k).2.next ≤ s.next + 1 ∧ s.next ≤ (ins s k).2.next ∧
    ((k ∈ content s.l ∧ (ins s k) = (⟨0, 0, 0, 62⟩, s)) ∨ (k ∉ content s.l ∧ (ins s k).1.e = 0 ∧ ∀ x, x ∈ content (ins s k).2.l ↔ x = k ∨ x ∈ content s.l)) := by
  obtain ⟨pre, y, post, e, ha, h1, h2⟩ := at_split h k
  have hm := mem_at h e h1 h2
  rw [ins_eq e ha]
  by_cases hk : k ∈ y.ks
  · rw [if_pos hk]
    exact ⟨h, rfl, by simp, by simp, .inl ⟨hm.2 hk, rfl⟩⟩
  rw [if_neg hk]
  have hkc : k ∉ content s.l := fun c => hk (hm.1 c)
  have hI := h; rw [e] at hI
  have hsy : Srt y.ks := hI.srt y (by simp)
  have b := List.pairwise_cons.1 (List.pairwise_append.1 hI.below).2.1
  have hsk := srt_insK hsy hk
  have hbk : ∀ z ∈ post, ∀ x ∈ insK y.ks k, lt x z.b = true := fun z hz x hx => by
    rcases mem_insK.1 hx with rfl | hx
    · exact h2 z hz
    · exact b.1 z hz x hx
  have hak : ∀ x ∈ insK y.ks k, lt x y.b = false := fun x hx => by
    rcases mem_insK.1 hx with rfl | hx
    · exact h1
    · exact hI.above y (by simp) x hx
  by_cases hl : (insK y.ks k).length ≤ s.fan
  · rw [if_pos hl]
    refine ⟨hI.put _ hsk hbk hak, rfl, by simp, by simp, .inr ⟨hkc, rfl, fun x => ?_⟩⟩
    rw [e]
    simp only [content_app, content_cons, List.mem_append, mem_insK]
    constructor
    · rintro (h | (h | h) | h) <;> simp [h]
    · rintro (h | h | h | h) <;> simp [h]
  · rw [if_neg hl]
    obtain ⟨ks, hks⟩ : ∃ ks, ks = insK y.ks k := ⟨_, rfl⟩
    rw [← hks] at hsk hbk hak hl ⊢
    obtain ⟨c, hc⟩ : ∃ c, c = (ks.length + 1) / 2 := ⟨_, rfl⟩
    rw [← hc]
    have hc1 : 1 ≤ c := by omega
    have hc2 : c < ks.length := by omega
    have hg : ks.getD c ⟨#[]⟩ = ks[c] := by rw [List.getD_eq_getElem?_getD, List.getElem?_eq_getElem hc2]; rfl
    rw [hg]
    have hT : ∀ x ∈ ks.take c, lt x ks[c] = true := fun x hx => by
      obtain ⟨j, hj, rfl⟩ := List.mem_take_iff_getElem.1 hx
      exact List.pairwise_iff_getElem.1 hsk j c (by omega) hc2 (by omega)
    have hD : ∀ x ∈ ks.drop c, lt x ks[c] = false := fun x hx => by
      obtain ⟨j, hj, rfl⟩ := List.mem_drop_iff_getElem.1 hx
      rcases Nat.eq_zero_or_pos j with rfl | hj0
      · simpa using lt_irrefl _
      · exact lt_asymm (List.pairwise_iff_getElem.1 hsk c (c + j) hc2 (by omega) (by omega))
    have hcm : ks[c] ∈ ks := List.getElem_mem hc2
    have h0 : lt y.b ks[c] = true := by
      have hm0 : ks[0]'(by omega) ∈ ks.take c := List.mem_take_iff_getElem.2 ⟨0, by omega, rfl⟩
      exact le_lt (hak _ (List.getElem_mem _)) (hT _ hm0)
    have hP := hI.put (ks.take c) (hsk.sublist (List.take_sublist _ _)) (fun z hz x hx => hbk z hz x (List.mem_of_mem_take hx)) (fun x hx => hak x (List.mem_of_mem_take hx))
    refine ⟨hP.split (z := ⟨s.next, ks[c], ks.drop c⟩) h0 (hsk.sublist (List.drop_sublist _ _)) hT (fun w hw => hbk w hw _ hcm) (fun w hw x hx => hbk w hw x (List.mem_of_mem_drop hx)) hD, rfl, by simp, by simp, .inr ⟨hkc, rfl, fun x => ?_⟩⟩
    rw [e]
    have hx : x ∈ ks ↔ x = k ∨ x ∈ y.ks := by rw [hks]; exact mem_insK
    have hx' : x ∈ ks ↔ x ∈ ks.take c ∨ x ∈ ks.drop c := by rw [← List.mem_append, List.take_append_drop]
    simp only [content_app, content_cons, List.mem_append]
    rw [hx] at hx'
    constructor
    · rintro (h | h | h | h)
      · simp [h]
      · rcases hx'.2 (.inl h) with h | h <;> simp [h]
      · rcases hx'.2 (.inr h) with h | h <;> simp [h]
      · simp [h]
    · rintro (h | h | h | h)
      · rcases hx'.1 (.inl h) with h | h <;> simp [h]
      · simp [h]
      · rcases hx'.1 (.inr h) with h | h <;> simp [h]
      · simp [h]

theorem rem_ok {s : St} (h : Inv s.l) (k : ByteArray) :
    Inv (rem s k).2.l ∧ (rem s k).2.fan = s.fan ∧ (rem s k).2.next = s.next ∧
    ((k ∉ content s.l ∧ (rem s k) = (⟨0, 0, 0, 60⟩, s)) ∨ (k ∈ content s.l ∧ (rem s k).1.e = 0 ∧ ∀ x, x ∈ content (rem s k).2.l ↔ x ≠ k ∧ x ∈ content s.l)) := by
  obtain ⟨pre, y, post, e, ha, h1, h2⟩ := at_split h k
  have hm := mem_at h e h1 h2
  rw [rem_eq e ha]
  by_cases hk : k ∈ y.ks
  · rw [if_pos hk]
    have hI := h; rw [e] at hI
    have hsy : Srt y.ks := hI.srt y (by simp)
    have b := List.pairwise_cons.1 (List.pairwise_append.1 hI.below).2.1
    have hd : ∀ x, x ∈ delK y.ks k ↔ x ≠ k ∧ x ∈ y.ks := fun x => mem_delK hsy hk
    have hout : ∀ z, (z ∈ pre ∨ z ∈ post) → ∀ x ∈ z.ks, x ≠ k := by
      rintro z (hz | hz) x hx rfl
      · have := (List.pairwise_append.1 hI.below).2.2 z hz y (by simp) x hx
        rw [this] at h1; cases h1
      · have h3 := hI.above z (by simp [hz]) x hx
        rw [h2 z hz] at h3; cases h3
    have hc : ∀ x, x ∈ content (pre ++ { y with ks := delK y.ks k } :: post) ↔ x ≠ k ∧ x ∈ content s.l := fun x => by
      rw [e]
      simp only [content_app, content_cons, List.mem_append, hd]
      constructor
      · rintro (h | h | h)
        · obtain ⟨z, hz, hx⟩ := mem_content.1 h
          exact ⟨hout z (.inl hz) x hx, .inl h⟩
        · exact ⟨h.1, .inr (.inl h.2)⟩
        · obtain ⟨z, hz, hx⟩ := mem_content.1 h
          exact ⟨hout z (.inr hz) x hx, .inr (.inr h)⟩
      · rintro ⟨h0, h | h | h⟩ <;> simp [h, h0]
    by_cases hl : (delK y.ks k).length = 0 ∧ (pre ++ y :: post).length ≠ 1
    · rw [if_pos hl]
      refine ⟨hI.cut (fun c => hl.2 ?_), rfl, rfl, .inr ⟨hm.2 hk, rfl, fun x => ?_⟩⟩
      · have := congrArg List.length c
        simp only [List.length_append, List.length_nil, List.length_cons] at this ⊢; omega
      · rw [← hc x]
        show x ∈ content (open0 (pre ++ post)) ↔ _
        rw [content_open0]
        simp only [content_app, content_cons, List.mem_append]
        rw [List.length_eq_zero_iff.1 hl.1]; simp
    · rw [if_neg hl]
      exact ⟨hI.put _ (srt_delK hsy k) (fun z hz x hx => b.1 z hz x ((hd x).1 hx).2) (fun x hx => hI.above y (by simp) x ((hd x).1 hx).2), rfl, rfl, .inr ⟨hm.2 hk, rfl, hc⟩⟩
  · rw [if_neg hk]
    exact ⟨h, rfl, rfl, .inl ⟨fun c => hk (hm.1 c), rfl⟩⟩

/-- The leaves in which keys between two would be. -/
def seg (l : List Leaf) (a b : ByteArray) : List Leaf := (l.take (atL l b + 1)).drop (atL l a)
def within (a b : ByteArray) (k : ByteArray) : Bool := !lt k a && lt k b
def rangeK (l : List Leaf) (a b : ByteArray) : List ByteArray := if lt a b then (content (seg l a b)).filter (within a b) else []
def rangeN (l : List Leaf) (a b : ByteArray) : List Int := if lt a b then (seg l a b).map (·.n) else []

theorem at_mono {l : List Leaf} (h : Inv l) {a b : ByteArray} (hab : lt a b = true) : atL l a ≤ atL l b := by
  obtain ⟨pre, y, post, e, ha, h1, h2⟩ := at_split h a
  obtain ⟨pre', y', post', e', ha', h1', h2'⟩ := at_split h b
  rw [ha, ha']
  rcases Nat.lt_or_ge pre'.length pre.length with c | c
  · exfalso
    -- y stands behind y', so b is below its bound
    have hy : l[pre.length]? = some y := by rw [e]; simp
    rw [e'] at hy
    rw [List.getElem?_append_right (by omega), show pre.length - pre'.length = (pre.length - pre'.length - 1) + 1 by omega, List.getElem?_cons_succ] at hy
    have := h2' y (List.mem_of_getElem? hy)
    have h3 := lt_trans hab this
    rw [h3] at h1; cases h1
  · exact c

theorem range_all {l : List Leaf} (h : Inv l) (a b : ByteArray) : rangeK l a b = (content l).filter (within a b) := by
  unfold rangeK
  cases hab : lt a b
  · simp only [Bool.false_eq_true, if_false]
    symm
    rw [List.filter_eq_nil_iff]
    intro k _ hk
    unfold within at hk
    simp only [Bool.and_eq_true, Bool.not_eq_true'] at hk
    have := le_lt hk.1 hk.2; rw [this] at hab; cases hab
  · simp only [if_true]
    have hm := at_mono h hab
    obtain ⟨pre, y, post, e, ha, h1, h2⟩ := at_split h a
    obtain ⟨pre', y', post', e', ha', h1', h2'⟩ := at_split h b
    have hl : l = l.take (atL l a) ++ (seg l a b ++ l.drop (atL l b + 1)) := by
      unfold seg
      conv => lhs; rw [← List.take_append_drop (atL l b + 1) l, ← List.take_append_drop (atL l a) (l.take (atL l b + 1)), List.take_take, Nat.min_eq_left (by omega)]
      rw [List.append_assoc]
    have hA : (content (l.take (atL l a))).filter (within a b) = [] := by
      rw [List.filter_eq_nil_iff]
      intro k hk
      rw [ha, show l.take pre.length = pre by rw [e]; simp] at hk
      obtain ⟨z, hz, hx⟩ := mem_content.1 hk
      have hI := h; rw [e] at hI
      have := (List.pairwise_append.1 hI.below).2.2 z hz y (by simp) k hx
      unfold within
      rw [lt_le this h1]; simp
    have hB : (content (l.drop (atL l b + 1))).filter (within a b) = [] := by
      rw [List.filter_eq_nil_iff]
      intro k hk
      rw [ha', show l.drop (pre'.length + 1) = post' by rw [e']; exact at_here.2.2] at hk
      obtain ⟨z, hz, hx⟩ := mem_content.1 hk
      have h3 := h.above z (by rw [e']; simp [hz]) k hx
      unfold within
      rw [lt_asymm (lt_le (h2' z hz) h3)]; simp
    conv => rhs; rw [hl]
    rw [content_app, content_app, List.filter_append, List.filter_append, hA, hB]; simp

theorem srt_ext : ∀ {a b : List ByteArray}, Srt a → Srt b → (∀ x, x ∈ a ↔ x ∈ b) → a = b
  | [], [], _, _, _ => rfl
  | [], y :: b, _, _, h => by have := (h y).2 (by simp); cases this
  | x :: a, [], _, _, h => by have := (h x).1 (by simp); cases this
  | x :: a, y :: b, ha, hb, h => by
    have ha' := List.pairwise_cons.1 ha
    have hb' := List.pairwise_cons.1 hb
    have hxy : x = y := by
      rcases List.mem_cons.1 ((h x).1 (by simp)) with e | e
      · exact e
      · rcases List.mem_cons.1 ((h y).2 (by simp)) with e' | e'
        · exact e'.symm
        · have := lt_asymm (hb'.1 x e); rw [ha'.1 y e'] at this; cases this
    subst hxy
    rw [srt_ext ha'.2 hb'.2 fun z => ?_]
    constructor
    · intro hz
      rcases List.mem_cons.1 ((h z).1 (by simp [hz])) with rfl | e
      · have := ha'.1 z hz; rw [lt_irrefl] at this; cases this
      · exact e
    · intro hz
      rcases List.mem_cons.1 ((h z).2 (by simp [hz])) with rfl | e
      · have := hb'.1 z hz; rw [lt_irrefl] at this; cases this
      · exact e

end Go.Proofs.YtecmppmkidefmaaDoor.LeafW
