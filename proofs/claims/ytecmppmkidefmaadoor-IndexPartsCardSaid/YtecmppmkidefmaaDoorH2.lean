/-
  The library's functions on slices of texts, in the words of rows that a slice owns.
-/
import Derived.Test.YtecmppmkidefmaaDoorHeap
import Derived.Test.YtecmppmkidefmaaDoorSlices
namespace Go.Proofs.YtecmppmkidefmaaDoor
open Go.RowKit LeafW

section
variable {T : TypeId} {w : World} {g n cap i : Nat} {cur : Array Value} {cs : List Value} {x : Value}

theorem put_two (hs : cur.size = cap) (ht : cur.toList.take n = cs) (hl : cs.length = n) (hc : n + 1 ≤ cap) (hi : i ≤ n) (old : List Value) (ho : old = cs.drop i) :
    (putList (putList cur (i + 1) old) i [x]).toList.take (n + 1) = cs.take i ++ x :: cs.drop i := by
  subst ho
  apply List.ext_getElem?
  intro j
  rw [List.getElem?_take]
  by_cases hj : j < n + 1
  · rw [if_pos hj, Array.getElem?_toList, putList_get _ _ _ (by rw [putList_size]; simp; omega), putList_get _ _ _ (by rw [List.length_drop]; omega)]
    have hcur : j < n → cur[j]? = cs[j]? := fun h => by rw [← ht, List.getElem?_take, if_pos h, Array.getElem?_toList]
    by_cases h1 : j < i
    · rw [if_neg (by simp; omega), if_neg (by omega), hcur (by omega), List.getElem?_append_left (by rw [List.length_take]; omega), List.getElem?_take, if_pos h1]
    · rw [List.getElem?_append_right (by rw [List.length_take]; omega), List.length_take, Nat.min_eq_left (by omega)]
      by_cases h2 : j = i
      · subst h2; rw [if_pos (by simp), Nat.sub_self]; rfl
      · rw [if_neg (by simp; omega), if_pos (by rw [List.length_drop]; omega), show j - i = (j - (i + 1)) + 1 by omega, List.getElem?_cons_succ]
  · rw [if_neg hj]
    symm
    rw [List.getElem?_eq_none_iff]
    simp; omega

theorem own_shift (hg : Row5 w g T cur) (hs : cur.size = cap) (ht : cur.toList.take n = cs) (hl : cs.length = n) (hc : n + 1 ≤ cap) (hm : cap ≤ maxLen) (hi : i ≤ n) :
    ((w.drew.setCells g (i + 1) (cs.drop i)).setCells g i [x]).ownsRow 0 T 1 (.slice (some ⟨g, 0, none⟩) (n + 1) cap) (n + 1) (cs.take i ++ x :: cs.drop i) ∧
    Keep [g] w ((w.drew.setCells g (i + 1) (cs.drop i)).setCells g i [x]) := by
  have h1 : Row5 w.drew g T cur := hg
  refine ⟨own_mk (setCells_row _ _ _ _ (setCells_row _ _ _ _ h1)) hc hm (by rw [putList_size, putList_size, hs]) (put_two hs ht hl hc hi _ rfl), ?_⟩
  exact ((keep_drew [g] w).trans (setCells_keep _ _ _) (fun _ h => .inl h)).trans (setCells_keep _ _ _) (fun _ h => .inl h)
theorem own_end (hg : Row5 w g T cur) (hs : cur.size = cap) (ht : cur.toList.take n = cs) (hl : cs.length = n) (hc : n + 1 ≤ cap) (hm : cap ≤ maxLen) :
    (w.setCells g n [x]).ownsRow 0 T 1 (.slice (some ⟨g, 0, none⟩) (n + 1) cap) (n + 1) (cs.take n ++ x :: cs.drop n) ∧ Keep [g] w (w.setCells g n [x]) := by
  refine ⟨own_mk (setCells_row _ _ _ _ hg) hc hm (by rw [putList_size, hs]) ?_, setCells_keep _ _ _⟩
  have := put_two (x := x) hs ht hl hc (Nat.le_refl n) [] (by rw [← hl]; simp)
  exact this
theorem own_end_grow {G : Nat} {z : Array Value} (hl : cs.length = n) (hG : n + 1 ≤ G) (hm : G ≤ maxLen) (hz : z.size = G - (n + 1)) :
    (w.drew.alloc (.cells ((cs ++ [x]).toArray ++ z) T)).ownsRow 0 T 1 (.slice (some ⟨w.heap.size, 0, none⟩) (n + 1) G) (n + 1) (cs.take n ++ x :: cs.drop n) ∧
    Keep [] w (w.drew.alloc (.cells ((cs ++ [x]).toArray ++ z) T)) := by
  refine ⟨own_mk (Row5.new w.drew T _) hG hm (by simp [hz, hl]; omega) ?_, (keep_drew [] w).trans (keep_alloc [] _ _) (fun _ h => by cases h)⟩
  rw [Array.toList_append, List.take_append_of_le_length (by simp [hl]), ← hl]
  simp [List.take_of_length_le]
theorem own_grow {G : Nat} {z z' : Array Value} (hl : cs.length = n) (hi : i < n) (hG : n + 1 ≤ G) (hm : G ≤ maxLen) (hz : z.size = n + 1 - i) (hz' : z'.size = G - (n + 1)) :
    (((w.alloc (.cells ((cs.take i).toArray ++ z ++ z') T)).drew.setCells w.heap.size i [x]).drew.setCells w.heap.size (i + 1) (cs.drop i)).ownsRow 0 T 1 (.slice (some ⟨w.heap.size, 0, none⟩) (n + 1) G) (n + 1) (cs.take i ++ x :: cs.drop i) ∧
    Keep [] w (((w.alloc (.cells ((cs.take i).toArray ++ z ++ z') T)).drew.setCells w.heap.size i [x]).drew.setCells w.heap.size (i + 1) (cs.drop i)) := by
  have h1 : Row5 (w.alloc (.cells ((cs.take i).toArray ++ z ++ z') T)).drew w.heap.size T ((cs.take i).toArray ++ z ++ z') := Row5.new w T _
  have h2 : Row5 ((w.alloc (.cells ((cs.take i).toArray ++ z ++ z') T)).drew.setCells w.heap.size i [x]).drew w.heap.size T (putList ((cs.take i).toArray ++ z ++ z') i [x]) := setCells_row _ _ _ _ h1
  have hsz : ((cs.take i).toArray ++ z ++ z').size = G := by simp [hz, hz', hl]; omega
  refine ⟨own_mk (setCells_row _ _ _ _ h2) hG hm (by rw [putList_size, putList_size, hsz]) ?_, ?_⟩
  · apply List.ext_getElem?
    intro j
    rw [List.getElem?_take]
    by_cases hj : j < n + 1
    · rw [if_pos hj, Array.getElem?_toList, putList_get _ _ _ (by rw [putList_size, hsz, List.length_drop]; omega), putList_get _ _ _ (by rw [hsz]; simp; omega)]
      by_cases h1 : j < i
      · rw [if_neg (by omega), if_neg (by simp; omega), List.getElem?_append_left (by rw [List.length_take]; omega), Array.append_assoc, Array.getElem?_append_left (by simp; omega)]
        simp
      · rw [List.getElem?_append_right (by rw [List.length_take]; omega), List.length_take, Nat.min_eq_left (by omega)]
        by_cases h2 : j = i
        · subst h2; rw [if_neg (by omega), if_pos (by simp), Nat.sub_self]; rfl
        · rw [if_pos (by rw [List.length_drop]; omega), show j - i = (j - (i + 1)) + 1 by omega, List.getElem?_cons_succ]
    · rw [if_neg hj]
      symm
      rw [List.getElem?_eq_none_iff]
      simp; omega
  · have a1 : Keep [] w (w.alloc (.cells ((cs.take i).toArray ++ z ++ z') T)).drew := (keep_alloc [] w _).trans (keep_drew [] _) (fun _ h => by cases h)
    have a2 := a1.trans (setCells_keep (g := w.heap.size) [x] i _) (fun k hk => .inr (by simp at hk; omega))
    have a3 := a2.trans (keep_drew [] _) (fun _ h => by cases h)
    exact a3.trans (setCells_keep (g := w.heap.size) (cs.drop i) (i + 1) _) (fun k hk => .inr (by simp at hk; omega))
end

/-- What putting an element into a slice leaves. -/
structure Put (w w' : World) (T : TypeId) (v v' : Value) (cs : List Value) (i : Nat) (x : Value) : Prop where
  own : w'.ownsRow 0 T 1 v' (cs.length + 1) (cs.take i ++ x :: cs.drop i)
  blk : ∃ b, v'.ownBlock = some b ∧ (v.ownBlock = some b ∨ w.heap.size ≤ b)
  keep : Keep v.ownBlock.toList w w'

theorem zeroCells_size (z : Value) (hz : z.cells.size = 1) (m : Nat) : (Builtin.zeroCells z.cells m).size = m := by
  simp [Builtin.zeroCells, hz]

theorem info9 : (Tryd.prog.info? 9).map (fun i => (i.zero, i.size, i.bytes)) = some (some (.string ⟨#[]⟩), 1, 16) := by kernel_rfl

/-- slices.Insert of one text. -/
theorem insS_any (w : World) (v : Value) (cs : List Value) (h : w.ownsRow 0 9 1 v cs.length cs) (h1 : ∀ u ∈ cs, u.oneCell' = true) (i : Nat) (hi : i ≤ cs.length) (hbig : (cs.length + 1) * 16 ≤ 140737488355328)
    (vb : Nat) (x : ByteArray) (hx : Row5 w vb 9 #[.string x]) (hvb : v.ownBlock ≠ some vb) :
    Calls Tryd.prog 40 #[v, .int .i64 i, .slice (some ⟨vb, 0, none⟩) 1 1] w fun e w' => ∃ v', e = .returned v' ∧ Put w w' 9 v v' cs i (.string x) := by
  have hvs : ∀ (j : Nat) (u : Value), [Value.string x][j]? = some u → w.cell? ⟨vb, 0 + j, none⟩ = some u := fun j u hj => by
    rw [Nat.zero_add, hx.cell]
    cases j with
    | zero => exact hj
    | succ j => simp at hj
  have h1v : ∀ u ∈ [Value.string x], u.oneCell' = true := fun u hu => by simp at hu; subst hu; rfl
  rcases own_cases h with ⟨rfl, hn, hcs⟩ | ⟨g, cap, cur, rfl, hg, hc, hm, hs, ht⟩
  · subst hcs
    obtain rfl : i = 0 := by simpa using hi
    refine (Any2.slices_Insert_string_end_grow layIns none 0 0 vb 0 1 1 [] [.string x] w (by omega) (by omega) (by omega) (by omega) rfl rfl (fun _ => rfl) (fun a e => by cases e) hvs h1v).mono ?_
    rintro e w' ⟨rfl, rfl⟩
    have hb := own_end_grow (T := 9) (w := w) (x := .string x) (cs := []) (n := 0) rfl (grownCap_ge w (0 + 1) 0 9) (grownCap_le_maxLen w (0 + 1) 0 9 (by unfold maxLen; omega)) (zeroCells_size (Value.string ⟨#[]⟩) rfl _)
    exact ⟨_, rfl, hb.1, ⟨_, rfl, .inr (Nat.le_refl _)⟩, hb.2⟩
  · have hcs : ∀ (j : Nat) (u : Value), cs[j]? = some u → w.cell? ⟨g, 0 + j, none⟩ = some u := fun j u hj => by rw [Nat.zero_add]; exact own_cell h j u hj
    have hne : vb ≠ g := fun e => hvb (by rw [e]; rfl)
    have hG := grownCap_ge w (cs.length + 1) cap 9
    have hGm := grownCap_le_maxLen w (cs.length + 1) cap 9 (by unfold maxLen; omega)
    rcases Nat.lt_or_ge i cs.length with hlt | hge
    · rcases Nat.lt_or_ge cap (cs.length + 1) with hroom | hroom
      · refine (Any2.slices_Insert_string_grow layIns g 0 cs.length cap i vb 0 1 1 cs [.string x] w hlt (by omega) hc hroom hbig rfl rfl hcs hvs h1 h1v).mono ?_
        rintro e w' ⟨rfl, rfl⟩
        have hb := own_grow (T := 9) (w := w) (x := .string x) rfl hlt hG hGm (zeroCells_size (Value.string ⟨#[]⟩) rfl (cs.length + 1 - i)) (zeroCells_size (Value.string ⟨#[]⟩) rfl (grownCap w (cs.length + 1) cap 9 - (cs.length + 1)))
        exact ⟨_, rfl, hb.1, ⟨_, rfl, .inr (Nat.le_refl _)⟩, hb.2.mono (fun _ h => by cases h)⟩
      · have hsp : ∀ j, j < cs.length + 1 → (w.cell? ⟨g, 0 + j, none⟩).isSome = true := fun j hj => by rw [Nat.zero_add, hg.cell, Array.getElem?_eq_getElem (by omega)]; rfl
        refine (Any2.slices_Insert_string_shift layIns g 0 cs.length cap i vb 0 1 1 cs [.string x] w hlt (by omega) hroom (by unfold maxLen at hm; omega) hne rfl rfl hcs hsp (fun j _ => hg.free _) hvs h1 h1v 9 9 1 cap
          (by unfold World.shape?; rw [show w.heap[vb]? = _ from hx]; rfl) (by unfold World.shape?; rw [show w.heap[g]? = _ from hg]; simp [hs]) (by omega) (hx.free _) (hx.free _)).mono ?_
        rintro e w' ⟨rfl, rfl⟩
        have hb := own_shift (x := .string x) hg hs ht rfl hroom hm hi
        rw [Nat.zero_add, Nat.zero_add]
        exact ⟨_, rfl, hb.1, ⟨_, rfl, .inl rfl⟩, hb.2⟩
    · obtain rfl : i = cs.length := by omega
      rcases Nat.lt_or_ge cap (cs.length + 1) with hroom | hroom
      · refine (Any2.slices_Insert_string_end_grow layIns (some ⟨g, 0, none⟩) cs.length cap vb 0 1 1 cs [.string x] w (by omega) hc hroom hbig rfl rfl (fun e => by cases e)
          (fun a e j u hj => by cases e; have hadd : (⟨g, 0, none⟩ : Addr).add j = ⟨g, j, none⟩ := by unfold Addr.add; split <;> simp_all
                                rw [hadd]; exact own_cell h j u hj) hvs h1v).mono ?_
        rintro e w' ⟨rfl, rfl⟩
        have hb := own_end_grow (T := 9) (w := w) (x := .string x) (cs := cs) rfl hG hGm (zeroCells_size (Value.string ⟨#[]⟩) rfl (grownCap w (cs.length + 1) cap 9 - (cs.length + 1)))
        exact ⟨_, rfl, hb.1, ⟨_, rfl, .inr (Nat.le_refl _)⟩, hb.2.mono (fun _ h => by cases h)⟩
      · have hsp : ∀ j, j < 1 → (w.cell? ⟨g, 0 + cs.length + j, none⟩).isSome = true := fun j hj => by rw [hg.cell, Array.getElem?_eq_getElem (by omega)]; rfl
        refine (Any2.slices_Insert_string_end_room layIns g 0 cs.length cap vb 0 1 1 [.string x] w (by omega) hroom (by unfold maxLen at hm; omega) rfl hsp (fun j _ => hg.free _) hvs h1v).mono ?_
        rintro e w' ⟨rfl, rfl⟩
        have hb := own_end (x := .string x) hg hs ht rfl hroom hm
        rw [Nat.zero_add]
        exact ⟨_, rfl, hb.1, ⟨_, rfl, .inl rfl⟩, hb.2⟩

/-- slices.BinarySearch of texts in order. -/
theorem search_any (w : World) (v : Value) (ks : List ByteArray) (h : w.ownsRow 0 9 1 v ks.length (ks.map .string)) (hs : Srt ks) (hbig : ks.length < 4611686018427387904) (k : ByteArray) :
    Calls Tryd.prog 37 #[v, .string k] w fun e w' => e = .returned (.tuple #[.int .i64 (pos ks k), .bool (decide (k ∈ ks))]) ∧ ∃ q, w' = w.drewN q := by
  rcases own_cases h with ⟨rfl, hn, hcs⟩ | ⟨g, cap, cur, rfl, hg, hc, hm, _, ht⟩
  · obtain rfl : ks = [] := List.length_eq_zero_iff.1 hn
    exact (Any2.slices_BinarySearch_string_empty layBs none 0 k w).mono fun e w' ⟨he, hw⟩ => ⟨he, 0, hw⟩
  · have e : Lib.bsGo (fun t => Op.bytesLess (ks.getD t k).toList k.toList) ks.length 0 ks.length = pos ks k := by
      refine Lib.bsGo_spec _ (pos ks k) (fun t ht => ?_) (fun t ht => ?_) _ _ _ (by omega) (by omega) (pos_le ks k)
      · have hp := pos_le ks k
        rw [List.getD_eq_getElem?_getD, List.getElem?_eq_getElem (by omega)]
        exact pos_take ks k _ (List.mem_take_iff_getElem.2 ⟨t, by omega, rfl⟩)
      · rw [List.getD_eq_getElem?_getD]
        rcases Nat.lt_or_ge t ks.length with hl | hl
        · rw [List.getElem?_eq_getElem hl]
          exact pos_drop hs k _ (List.mem_drop_iff_getElem.2 ⟨t - pos ks k, by omega, by simp only [show pos ks k + (t - pos ks k) = t by omega]; rfl⟩)
        · rw [List.getElem?_eq_none hl]; exact KeyW.less_irrefl _
    refine (Any2.slices_BinarySearch_string layBs g 0 ks.length cap (fun t => ks.getD t k) k w hbig (fun j hj => ?_)).mono ?_
    · rw [Nat.zero_add]
      exact own_cell h j _ (by rw [List.getElem?_map, List.getD_eq_getElem?_getD, List.getElem?_eq_getElem hj]; rfl)
    · rintro e' w' ⟨rfl, hw⟩
      refine ⟨?_, hw⟩
      rw [e]
      have hd : ∀ (a b : Bool), a = b → Ending.returned (.tuple #[.int .i64 (pos ks k), .bool a]) = .returned (.tuple #[.int .i64 (pos ks k), .bool b]) := fun a b h => by rw [h]
      refine hd _ _ (decide_eq_decide.2 ?_)
      rw [pos_found hs k]
      constructor
      · rintro ⟨hp, he⟩
        rw [List.getD_eq_getElem?_getD, List.getElem?_eq_getElem hp] at he
        exact ⟨hp, he⟩
      · rintro ⟨hp, he⟩
        exact ⟨hp, by rw [List.getD_eq_getElem?_getD, List.getElem?_eq_getElem hp]; exact he⟩

end Go.Proofs.YtecmppmkidefmaaDoor
