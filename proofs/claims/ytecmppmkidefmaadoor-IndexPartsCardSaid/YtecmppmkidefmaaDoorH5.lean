/-
  Leaves in memory, turned: one leaf's keys, the next number, a leaf more, a leaf fewer; and the walk over an empty one's making.
-/
import Derived.Test.YtecmppmkidefmaaDoorH4
import Derived.Test.YtecmppmkidefmaaDoorH1
namespace Go.Proofs.YtecmppmkidefmaaDoor
open Go.RowKit LeafW

/-- All blocks of leaves but those of the one at a place. -/
theorem foot_split {p : Nat} {sv : Value} {la lb : List (Nat × Value)} {q : Nat} {v : Value} (h : (foot p sv (la ++ (q, v) :: lb)).Nodup) :
    p ≠ q ∧ v.ownBlock ≠ some p ∧ sv.ownBlock ≠ some q ∧ (∀ b, sv.ownBlock = some b → v.ownBlock ≠ some b) ∧ v.ownBlock ≠ some q ∧ sv.ownBlock ≠ some p ∧
    (∀ b ∈ footL la, b ≠ q ∧ v.ownBlock ≠ some b) ∧ (∀ b ∈ footL lb, b ≠ q ∧ v.ownBlock ≠ some b) := by
  unfold foot at h
  rw [footL_app, footL_cons] at h
  have h0 := List.nodup_cons.1 h
  have h1 := List.nodup_append.1 h0.2
  have h2 := List.nodup_append.1 h1.2.1
  have h3 := List.nodup_cons.1 h2.2.1
  have h4 := List.nodup_append.1 h3.2
  have hm : ∀ b, v.ownBlock = some b → b ∈ footL la ++ q :: (v.ownBlock.toList ++ footL lb) := fun b hb => by simp [hb]
  refine ⟨fun e => h0.1 (by subst e; simp), fun e => h0.1 (List.mem_append.2 (.inr (hm _ e))), fun e => ?_, fun b hb e => ?_, fun e => ?_, fun e => h0.1 (by simp [e]), fun b hb => ⟨fun e => ?_, fun e => ?_⟩, fun b hb => ⟨fun e => ?_, fun e => ?_⟩⟩
  · exact h1.2.2 q (by simp [e]) q (by simp) rfl
  · exact h1.2.2 b (by simp [hb]) b (hm b e) rfl
  · exact h3.1 (by simp [e])
  · subst e; exact h2.2.2 b hb b (by simp) rfl
  · exact h2.2.2 b hb b (by simp [e]) rfl
  · subst e; exact h3.1 (by simp [hb])
  · exact h4.2.2 b (by simp [e]) b hb rfl

theorem getElem_mid {α : Type} {la lb : List α} {x : α} {i : Nat} {z : α} (h : (la ++ x :: lb)[i]? = some z) : (i < la.length ∧ la[i]? = some z) ∨ (i = la.length ∧ z = x) ∨ (la.length < i ∧ lb[i - la.length - 1]? = some z) := by
  rcases Nat.lt_trichotomy i la.length with c | c | c
  · rw [List.getElem?_append_left c] at h; exact .inl ⟨c, h⟩
  · subst c; rw [List.getElem?_append_right (Nat.le_refl _), Nat.sub_self, List.getElem?_cons_zero] at h; exact .inr (.inl ⟨rfl, (Option.some.inj h).symm⟩)
  · rw [List.getElem?_append_right (by omega), show i - la.length = (i - la.length - 1) + 1 by omega, List.getElem?_cons_succ] at h; exact .inr (.inr ⟨c, h⟩)
theorem mid_get {α : Type} {la lb : List α} {x : α} : (la ++ x :: lb)[la.length]? = some x := by simp
theorem mid_left {α : Type} {la lb : List α} {x z : α} {i : Nat} (hi : i < la.length) (h : la[i]? = some z) : (la ++ x :: lb)[i]? = some z := by rw [List.getElem?_append_left hi]; exact h
theorem mid_right {α : Type} {la lb : List α} {x z : α} {i : Nat} (hi : la.length < i) (h : lb[i - la.length - 1]? = some z) : (la ++ x :: lb)[i]? = some z := by
  rw [List.getElem?_append_right (by omega), show i - la.length = (i - la.length - 1) + 1 by omega, List.getElem?_cons_succ]; exact h

/-- The leaf at a place, and the others. -/
theorem LvsAt.here {w : World} {p : Nat} {sv : Value} {la lb : List (Nat × Value)} {q : Nat} {v : Value} {fan nx : Nat} {pre post : List Leaf} {y : Leaf} (hl : LvsAt w p sv (la ++ (q, v) :: lb) ⟨fan, nx, pre ++ y :: post⟩) (hla : la.length = pre.length) :
    LeafAt w q v (la.length == 0) y := hl.each la.length (q, v) y mid_get (by rw [hla]; exact mid_get)

/-- One leaf's keys turned. -/
theorem LvsAt.put {w w' : World} {p : Nat} {sv : Value} {la lb : List (Nat × Value)} {q : Nat} {v v' : Value} {fan nx : Nat} {pre post : List Leaf} {y y' : Leaf} (hl : LvsAt w p sv (la ++ (q, v) :: lb) ⟨fan, nx, pre ++ y :: post⟩) (hla : la.length = pre.length)
    {F : List Nat} (hk : Keep F w w') (hF : ∀ b ∈ F, b = q ∨ v.ownBlock = some b ∨ w.heap.size ≤ b) (hn : LeafAt w' q v' (la.length == 0) y') (hv : ∀ b, v'.ownBlock = some b → v.ownBlock = some b ∨ w.heap.size ≤ b) :
    LvsAt w' p sv (la ++ (q, v') :: lb) ⟨fan, nx, pre ++ y' :: post⟩ := by
  obtain ⟨f1, f2, f3, f4, f5, f6, f7, f8⟩ := foot_split hl.nd
  have hlt := hl.lt
  have hsv : ∀ b, sv.ownBlock = some b → b ∈ foot p sv (la ++ (q, v) :: lb) := fun b hb => by simp [foot, hb]
  have hpn : p ∉ F := fun c => by
    rcases hF p c with e | e | e
    · exact f1 e
    · exact f2 e
    · have := hl.row.lt; omega
  have hsn : ∀ b, sv.ownBlock = some b → b ∉ F := fun b hb c => by
    rcases hF b c with e | e | e
    · subst e; exact f3 hb
    · exact f4 b hb e
    · have := hlt b (hsv b hb); omega
  have other : ∀ (r : Nat × Value), (r ∈ la ∨ r ∈ lb) → ∀ b, (b = r.1 ∨ r.2.ownBlock = some b) → b ∉ F ∧ b ≠ q ∧ v'.ownBlock ≠ some b := fun r hr b hb => by
    have hm : b ∈ footL la ∨ b ∈ footL lb := by
      rcases hr with hr | hr
      · exact .inl (mem_footL.2 ⟨r, hr, hb⟩)
      · exact .inr (mem_footL.2 ⟨r, hr, hb⟩)
    have hq : b ≠ q ∧ v.ownBlock ≠ some b := by rcases hm with hm | hm <;> first | exact f7 b hm | exact f8 b hm
    have hb2 : b < w.heap.size := hlt b (by
      unfold foot; rw [footL_app, footL_cons]
      rcases hm with hm | hm <;> simp [hm])
    refine ⟨fun c => ?_, hq.1, fun c => ?_⟩
    · rcases hF b c with e | e | e
      · exact hq.1 e
      · exact hq.2 e
      · omega
    · rcases hv b c with e | e
      · exact hq.2 e
      · omega
  have hlen := hl.len
  refine ⟨hk.row hl.row hpn, ?_, by simp at hlen ⊢; omega, fun i r z hr hz => ?_, ?_⟩
  · have := hk.own hl.own hsn
    simpa using this
  · rcases getElem_mid hr with ⟨hi, hr'⟩ | ⟨hi, hr'⟩ | ⟨hi, hr'⟩
    · rcases getElem_mid hz with ⟨hj, hz'⟩ | ⟨hj, _⟩ | ⟨hj, _⟩
      · have ho := other r (.inl (List.mem_of_getElem? hr'))
        exact (hl.each i r z (mid_left hi hr') (mid_left hj hz')).keep hk (ho r.1 (.inl rfl)).1 (fun b hb => (ho b (.inr hb)).1)
      · omega
      · omega
    · rcases getElem_mid hz with ⟨hj, _⟩ | ⟨hj, hz'⟩ | ⟨hj, _⟩
      · omega
      · subst hr' hz' hi; exact hn
      · omega
    · rcases getElem_mid hz with ⟨hj, _⟩ | ⟨hj, _⟩ | ⟨hj, hz'⟩
      · omega
      · omega
      · have ho := other r (.inr (List.mem_of_getElem? hr'))
        exact (hl.each i r z (mid_right hi hr') (mid_right hj hz')).keep hk (ho r.1 (.inl rfl)).1 (fun b hb => (ho b (.inr hb)).1)
  · have hnd := hl.nd
    unfold foot at hnd ⊢
    rw [footL_app, footL_cons] at hnd ⊢
    have h0 := List.nodup_cons.1 hnd
    have h1 := List.nodup_append.1 h0.2
    have h2 := List.nodup_append.1 h1.2.1
    have h3 := List.nodup_cons.1 h2.2.1
    have h4 := List.nodup_append.1 h3.2
    have vb : ∀ b, v'.ownBlock = some b → b ≠ p ∧ b ≠ q ∧ sv.ownBlock ≠ some b ∧ b ∉ footL la ∧ b ∉ footL lb := fun b hb => by
      have hqlt : q < w.heap.size := by obtain ⟨bd, hr, _⟩ := (hl.here hla).row; exact hr.lt
      rcases hv b hb with e | e
      · refine ⟨fun c => f2 (by rw [← c]; exact e), fun c => f5 (by rw [← c]; exact e), fun c => f4 b c e, fun c => (f7 b c).2 e, fun c => (f8 b c).2 e⟩
      · refine ⟨fun c => ?_, fun c => by omega, fun c => ?_, fun c => ?_, fun c => ?_⟩
        · have := hl.row.lt; omega
        · have := hlt b (hsv b c); omega
        · have := hlt b (by unfold foot; rw [footL_app, footL_cons]; simp [c]); omega
        · have := hlt b (by unfold foot; rw [footL_app, footL_cons]; simp [c]); omega
    have vnd : (v'.ownBlock.toList).Nodup := by cases v'.ownBlock <;> simp
    refine List.nodup_cons.2 ⟨?_, List.nodup_append.2 ⟨h1.1, List.nodup_append.2 ⟨h2.1, List.nodup_cons.2 ⟨?_, List.nodup_append.2 ⟨vnd, h4.2.1, ?_⟩⟩, ?_⟩, ?_⟩⟩
    · intro c
      simp only [List.mem_append, List.mem_cons, Option.mem_toList] at c
      rcases c with c | c | c | c | c
      · exact f6 c
      · exact h0.1 (by simp [c])
      · exact f1 c
      · exact (vb p c).1 rfl
      · exact h0.1 (by simp [c])
    · intro c
      simp only [List.mem_append, Option.mem_toList] at c
      rcases c with c | c
      · exact (vb q c).2.1 rfl
      · exact (f8 q c).1 rfl
    · intro a ha b hb e
      subst e
      exact (vb a (by simpa using ha)).2.2.2.2 hb
    · intro a ha b hb e
      subst e
      simp only [List.mem_cons, List.mem_append, Option.mem_toList] at hb
      rcases hb with hb | hb | hb
      · exact (f7 a ha).1 hb
      · exact (vb a hb).2.2.2.1 ha
      · exact h2.2.2 a ha a (by simp [hb]) rfl
    · intro a ha b hb e
      subst e
      have ha' : sv.ownBlock = some a := by simpa using ha
      simp only [List.mem_cons, List.mem_append, Option.mem_toList] at hb
      rcases hb with hb | hb | hb | hb
      · exact h1.2.2 a ha a (by simp [hb]) rfl
      · subst hb; exact f3 ha'
      · exact (vb a hb).2.2.1 ha'
      · exact h1.2.2 a ha a (by simp [hb]) rfl

/-- The next number turned. -/
theorem LvsAt.setTop {w w' : World} {p : Nat} {sv : Value} {ls : List (Nat × Value)} {fan nx nx' : Nat} {l : List Leaf} (hl : LvsAt w p sv ls ⟨fan, nx, l⟩) (hr : Row5 w' p 73 #[.int .i64 fan, sv, .int .i64 nx'])
    (hk : Keep [p] w w') : LvsAt w' p sv ls ⟨fan, nx', l⟩ := by
  have h0 := List.nodup_cons.1 hl.nd
  refine ⟨hr, hk.own hl.own (fun b hb c => h0.1 (by rw [List.mem_singleton] at c; subst c; simp [hb])), hl.len, fun i q y hq hy => ?_, hl.nd⟩
  have hm := List.mem_of_getElem? hq
  exact (hl.each i q y hq hy).keep hk (fun c => h0.1 (by rw [List.mem_singleton] at c; subst c; exact List.mem_append.2 (.inr (mem_footL.2 ⟨q, hm, .inl rfl⟩))))
    (fun b hb c => h0.1 (by rw [List.mem_singleton] at c; subst c; exact List.mem_append.2 (.inr (mem_footL.2 ⟨q, hm, .inr hb⟩))))

theorem foot_nd {p : Nat} {sv : Value} {ls : List (Nat × Value)} : (foot p sv ls).Nodup ↔ p ∉ footL ls ∧ sv.ownBlock ≠ some p ∧ (∀ b, sv.ownBlock = some b → b ∉ footL ls) ∧ (footL ls).Nodup := by
  unfold foot
  constructor
  · intro h
    have h0 := List.nodup_cons.1 h
    have h1 := List.nodup_append.1 h0.2
    exact ⟨fun c => h0.1 (by simp [c]), fun c => h0.1 (by simp [c]), fun b hb c => h1.2.2 b (by simp [hb]) b c rfl, h1.2.1⟩
  · rintro ⟨a, b, c, d⟩
    refine List.nodup_cons.2 ⟨fun e => ?_, List.nodup_append.2 ⟨by cases sv.ownBlock <;> simp, d, fun x hx y hy e => ?_⟩⟩
    · rcases List.mem_append.1 e with e | e
      · exact b (by simpa using e)
      · exact a e
    · subst e; exact c x (by simpa using hx) hy
theorem footL_perm {l1 l2 : List (Nat × Value)} {z : Nat} {vz : Value} : (footL (l1 ++ (z, vz) :: l2)).Perm (footL ((z, vz) :: (l1 ++ l2))) := List.Perm.flatMap_right _ List.perm_middle
theorem footL_insert {l1 l2 : List (Nat × Value)} {z : Nat} {vz : Value} (h : (footL (l1 ++ l2)).Nodup) (hz : z ∉ footL (l1 ++ l2)) (hv : ∀ b, vz.ownBlock = some b → b ∉ footL (l1 ++ l2) ∧ b ≠ z) : (footL (l1 ++ (z, vz) :: l2)).Nodup := by
  rw [footL_perm.nodup_iff, footL_cons]
  refine List.nodup_cons.2 ⟨fun e => ?_, List.nodup_append.2 ⟨by cases vz.ownBlock <;> simp, h, fun x hx y hy e => ?_⟩⟩
  · rcases List.mem_append.1 e with e | e
    · exact (hv z (by simpa using e)).2 rfl
    · exact hz e
  · subst e; exact (hv x (by simpa using hx)).1 hy
theorem footL_remove {l1 l2 : List (Nat × Value)} {z : Nat} {vz : Value} (h : (footL (l1 ++ (z, vz) :: l2)).Nodup) : (footL (l1 ++ l2)).Nodup ∧ z ∉ footL (l1 ++ l2) ∧ ∀ b, vz.ownBlock = some b → b ∉ footL (l1 ++ l2) := by
  rw [footL_perm.nodup_iff, footL_cons] at h
  have h0 := List.nodup_cons.1 h
  have h1 := List.nodup_append.1 h0.2
  exact ⟨h1.2.1, fun c => h0.1 (by simp [c]), fun b hb c => h1.2.2 b (by simp [hb]) b c rfl⟩
theorem mem_footL_mid {l1 l2 : List (Nat × Value)} {z : Nat} {vz : Value} {b : Nat} : b ∈ footL (l1 ++ (z, vz) :: l2) ↔ b = z ∨ vz.ownBlock = some b ∨ b ∈ footL (l1 ++ l2) := by
  rw [footL_perm.mem_iff, footL_cons]; simp
theorem mem_foot {p : Nat} {sv : Value} {ls : List (Nat × Value)} {b : Nat} : b ∈ foot p sv ls ↔ b = p ∨ sv.ownBlock = some b ∨ b ∈ footL ls := by simp [foot]

def ptrV (r : Nat × Value) : Value := .pointer (some ⟨r.1, 0, none⟩)

/-- A leaf more, behind another one. -/
theorem LvsAt.more {w w' : World} {p : Nat} {sv sv' : Value} {la lb : List (Nat × Value)} {fan nx : Nat} {pre post : List Leaf} {zl : Leaf} {z : Nat} {vz : Value} (hl : LvsAt w p sv (la ++ lb) ⟨fan, nx, pre ++ post⟩) (hla : la.length = pre.length) (h0 : 0 < la.length)
    (hz : LeafAt w z vz false zl) (hzn : z ∉ foot p sv (la ++ lb)) (hvz : ∀ b, vz.ownBlock = some b → b ∉ foot p sv (la ++ lb) ∧ b ≠ z)
    {F : List Nat} (hk : Keep F w w') (hF : ∀ b ∈ F, b = p ∨ sv.ownBlock = some b ∨ w.heap.size ≤ b)
    (hr : Row5 w' p 73 #[.int .i64 fan, sv', .int .i64 nx]) (ho : w'.ownsRow 0 67 1 sv' (la ++ (z, vz) :: lb).length ((la ++ (z, vz) :: lb).map ptrV)) (hsv : ∀ b, sv'.ownBlock = some b → sv.ownBlock = some b ∨ w.heap.size ≤ b) :
    LvsAt w' p sv' (la ++ (z, vz) :: lb) ⟨fan, nx, pre ++ zl :: post⟩ := by
  have hlt := hl.lt
  obtain ⟨n1, n2, n3, n4⟩ := foot_nd.1 hl.nd
  have hzl : z < w.heap.size := by obtain ⟨bd, hr, _⟩ := hz.row; exact hr.lt
  have hout : ∀ b, b ∈ footL (la ++ lb) → b ∉ F := fun b hb c => by
    rcases hF b c with e | e | e
    · subst e; exact n1 hb
    · exact n3 b e hb
    · have := hlt b (mem_foot.2 (.inr (.inr hb))); omega
  have hzF : z ∉ F := fun c => by
    rcases hF z c with e | e | e
    · exact hzn (mem_foot.2 (.inl e))
    · exact hzn (mem_foot.2 (.inr (.inl e)))
    · omega
  have hvF : ∀ b, vz.ownBlock = some b → b ∉ F := fun b hb c => by
    rcases hF b c with e | e | e
    · exact (hvz b hb).1 (mem_foot.2 (.inl e))
    · exact (hvz b hb).1 (mem_foot.2 (.inr (.inl e)))
    · have := own_lt hz.own hb; omega
  have other : ∀ r, (r ∈ la ∨ r ∈ lb) → ∀ b, (b = r.1 ∨ r.2.ownBlock = some b) → b ∈ footL (la ++ lb) := fun r hr b hb => mem_footL.2 ⟨r, List.mem_append.2 hr, hb⟩
  have hlen := hl.len
  refine ⟨hr, ho, by simp at hlen ⊢; omega, fun i r y hr' hy => ?_, foot_nd.2 ⟨fun c => ?_, fun c => ?_, fun b hb c => ?_, ?_⟩⟩
  · rcases getElem_mid hr' with ⟨hi, h1⟩ | ⟨hi, h1⟩ | ⟨hi, h1⟩
    · rcases getElem_mid hy with ⟨hj, h2⟩ | ⟨hj, _⟩ | ⟨hj, _⟩
      · refine (hl.each i r y (by rw [List.getElem?_append_left hi]; exact h1) (by rw [List.getElem?_append_left hj]; exact h2)).keep hk (hout _ (other r (.inl (List.mem_of_getElem? h1)) _ (.inl rfl))) (fun b hb => hout _ (other r (.inl (List.mem_of_getElem? h1)) _ (.inr hb)))
      · omega
      · omega
    · rcases getElem_mid hy with ⟨hj, _⟩ | ⟨hj, h2⟩ | ⟨hj, _⟩
      · omega
      · subst h1 h2
        rw [show (i == 0) = false from by simp; omega]
        exact hz.keep hk hzF hvF
      · omega
    · rcases getElem_mid hy with ⟨hj, _⟩ | ⟨hj, _⟩ | ⟨hj, h2⟩
      · omega
      · omega
      · have := (hl.each (i - 1) r y (by rw [List.getElem?_append_right (by omega), show i - 1 - la.length = i - la.length - 1 by omega]; exact h1) (by rw [List.getElem?_append_right (by omega), show i - 1 - pre.length = i - pre.length - 1 by omega]; exact h2)).keep hk
          (hout _ (other r (.inr (List.mem_of_getElem? h1)) _ (.inl rfl))) (fun b hb => hout _ (other r (.inr (List.mem_of_getElem? h1)) _ (.inr hb)))
        rw [show (i - 1 == 0) = false from by simp; omega] at this
        rw [show (i == 0) = false from by simp; omega]
        exact this
  · rcases mem_footL_mid.1 c with e | e | e
    · exact hzn (mem_foot.2 (.inl e.symm))
    · exact (hvz p e).1 (mem_foot.2 (.inl rfl))
    · exact n1 e
  · rcases hsv p c with e | e
    · exact n2 e
    · have := hl.row.lt; omega
  · rcases hsv b hb with h1 | h1
    · rcases mem_footL_mid.1 c with e | e | e
      · exact hzn (mem_foot.2 (.inr (.inl (by rw [← e]; exact h1))))
      · exact (hvz b e).1 (mem_foot.2 (.inr (.inl h1)))
      · exact n3 b h1 e
    · rcases mem_footL_mid.1 c with e | e | e
      · omega
      · have := own_lt hz.own e; omega
      · have := hlt b (mem_foot.2 (.inr (.inr e))); omega
  · exact footL_insert n4 (fun c => hzn (mem_foot.2 (.inr (.inr c)))) (fun b hb => ⟨fun c => (hvz b hb).1 (mem_foot.2 (.inr (.inr c))), (hvz b hb).2⟩)

/-- A leaf fewer. -/
theorem LvsAt.fewer {w w' : World} {p : Nat} {sv sv' : Value} {la lb : List (Nat × Value)} {fan nx : Nat} {pre post : List Leaf} {zl : Leaf} {z : Nat} {vz : Value} (hl : LvsAt w p sv (la ++ (z, vz) :: lb) ⟨fan, nx, pre ++ zl :: post⟩) (hla : la.length = pre.length)
    {F : List Nat} (hk : Keep F w w') (hF : ∀ b ∈ F, b = p ∨ sv.ownBlock = some b ∨ w.heap.size ≤ b)
    (hr : Row5 w' p 73 #[.int .i64 fan, sv', .int .i64 nx]) (ho : w'.ownsRow 0 67 1 sv' (la ++ lb).length ((la ++ lb).map ptrV)) (hsv : ∀ b, sv'.ownBlock = some b → sv.ownBlock = some b ∨ w.heap.size ≤ b) :
    LvsAt w' p sv' (la ++ lb) ⟨fan, nx, open0 (pre ++ post)⟩ := by
  have hlt := hl.lt
  obtain ⟨n1, n2, n3, n4⟩ := foot_nd.1 hl.nd
  obtain ⟨m1, m2, m3⟩ := footL_remove n4
  have hin : ∀ b, b ∈ footL (la ++ lb) → b ∈ footL (la ++ (z, vz) :: lb) := fun b hb => mem_footL_mid.2 (.inr (.inr hb))
  have hout : ∀ b, b ∈ footL (la ++ lb) → b ∉ F := fun b hb c => by
    rcases hF b c with e | e | e
    · subst e; exact n1 (hin _ hb)
    · exact n3 b e (hin _ hb)
    · have := hlt b (mem_foot.2 (.inr (.inr (hin _ hb)))); omega
  have other : ∀ r, (r ∈ la ∨ r ∈ lb) → ∀ b, (b = r.1 ∨ r.2.ownBlock = some b) → b ∈ footL (la ++ lb) := fun r hr b hb => mem_footL.2 ⟨r, List.mem_append.2 hr, hb⟩
  have hlen := hl.len
  have hopen : ∀ (i : Nat) (y : Leaf), (open0 (pre ++ post))[i]? = some y → ∃ y', (pre ++ post)[i]? = some y' ∧ y.n = y'.n ∧ y.ks = y'.ks ∧ (i ≠ 0 → y = y') := fun i y hy => by
    cases hpp : pre ++ post with
    | nil => rw [hpp] at hy; cases hy
    | cons x r =>
      rw [hpp] at hy
      cases i with
      | zero => cases hy; exact ⟨x, rfl, rfl, rfl, fun h => absurd rfl h⟩
      | succ j => exact ⟨y, hy, rfl, rfl, fun _ => rfl⟩
  have conv : ∀ (b : Bool) (i : Nat) (r : Nat × Value) (y y' : Leaf), LeafAt w r.1 r.2 b y' → (b = true → i = 0) → y.n = y'.n → y.ks = y'.ks → (i ≠ 0 → y = y') → LeafAt w r.1 r.2 (i == 0) y := fun b i r y y' h hb e1 e2 e3 => by
    obtain ⟨bd, hr, hbd⟩ := h.row
    refine ⟨⟨bd, by rw [e1]; exact hr, fun h0 => ?_⟩, by rw [e2]; exact h.own⟩
    have hi : i ≠ 0 := by simpa using h0
    cases b with
    | true => exact absurd (hb rfl) hi
    | false => rw [e3 hi]; exact hbd rfl
  refine ⟨hr, ho, by rw [open0_length]; simp at hlen ⊢; omega, fun i r y hr' hy => ?_, foot_nd.2 ⟨fun c => n1 (hin _ c), fun c => ?_, fun b hb c => ?_, m1⟩⟩
  · obtain ⟨y', hy', e1, e2, e3⟩ := hopen i y hy
    have hm : r ∈ la ∨ r ∈ lb := List.mem_append.1 (List.mem_of_getElem? hr')
    rcases Nat.lt_or_ge i la.length with hi | hi
    · rw [List.getElem?_append_left hi] at hr'
      rw [List.getElem?_append_left (by omega)] at hy'
      exact (conv _ i r y y' (hl.each i r y' (mid_left hi hr') (mid_left (by omega) hy')) (fun h => by simpa using h) e1 e2 e3).keep hk (hout _ (other r hm _ (.inl rfl))) (fun b hb => hout _ (other r hm _ (.inr hb)))
    · rw [List.getElem?_append_right hi] at hr'
      rw [List.getElem?_append_right (by omega)] at hy'
      have := hl.each (i + 1) r y' (mid_right (by omega) (by rw [show i + 1 - la.length - 1 = i - la.length by omega]; exact hr')) (mid_right (by omega) (by rw [show i + 1 - pre.length - 1 = i - pre.length by omega]; exact hy'))
      rw [show (i + 1 == 0) = false from by simp] at this
      exact (conv _ i r y y' this (fun h => by cases h) e1 e2 e3).keep hk (hout _ (other r hm _ (.inl rfl))) (fun b hb => hout _ (other r hm _ (.inr hb)))
  · rcases hsv p c with e | e
    · exact n2 e
    · have := hl.row.lt; omega
  · rcases hsv b hb with h1 | h1
    · exact n3 b h1 (hin _ c)
    · have := hlt b (mem_foot.2 (.inr (.inr (hin _ c)))); omega

end Go.Proofs.YtecmppmkidefmaaDoor
