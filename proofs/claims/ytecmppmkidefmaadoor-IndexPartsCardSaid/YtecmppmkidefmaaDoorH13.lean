/-
  The walk over the numbers and the leaves between two keys.
-/
import Derived.Test.YtecmppmkidefmaaDoorH12
import Derived.RangeFuncBound
import Derived.RangeFuncCalls
namespace Go.Proofs.YtecmppmkidefmaaDoor
open Go.RowKit LeafW Go.Shelf

attribute [local go_sem] Oper.semAt_some

theorem range_any (w : World) (p : Nat) (sv : Value) (ls : List (Nat × Value)) (s : St) (hl : LvsAt w p sv ls s) (ho : Ok s) (hn : s.l.length < 4096) (a b : ByteArray) (hne : b.toList.isEmpty = false) :
    Calls Tryd.prog 43 #[.pointer (some ⟨p, 0, none⟩), .string a, .string b] w fun e w' => ∃ kv lv, e = .returned (.tuple #[kv, lv]) ∧
      w'.ownsRow w.heap.size 9 1 kv (rangeK s.l a b).length ((rangeK s.l a b).map .string) ∧ w'.ownsRow w.heap.size 3 1 lv (rangeN s.l a b).length ((rangeN s.l a b).map (.int .i64)) ∧ Below w.heap.size w w' := by
  cases hab : lt a b
  · refine (range_no w p a b hne hab).mono ?_
    rintro e w' ⟨rfl, rfl⟩
    refine ⟨_, _, rfl, ?_, ?_, Below.refl _ _⟩
    · unfold rangeK; rw [hab]; exact World.ownsRow_nil _ _ _ _
    · unfold rangeN; rw [hab]; exact World.ownsRow_nil _ _ _ _
  · exact range_yes w p sv ls s hl ho hn a b hne hab

theorem own_one {w : World} {B : Nat} {T : TypeId} {v : Value} {n : Nat} {xs : List Value} (h : w.ownsRow B T 1 v n xs) : v.oneCell' = true := by
  rcases own_cases h with ⟨rfl, _⟩ | ⟨g, cap, cur, rfl, _⟩ <;> rfl
theorem boxed_lt {W : World} {B : Nat} {t : TypeId} {v : Value} (h : Boxed W B t v) : B < W.heap.size := (Array.getElem?_eq_some_iff.1 h).1
theorem own_sub {w : World} {B B' : Nat} {T : TypeId} {z : Nat} {v : Value} {n : Nat} {xs : List Value} (h : w.ownsRow B T z v n xs) (hB : B' ≤ B) : w.ownsRow B' T z v n xs := by
  refine ⟨h.1, ?_⟩
  rcases h.2 with hn | ⟨g, cap, cur, hv, hb, rest⟩
  · exact .inl hn
  · exact .inr ⟨g, cap, cur, hv, Nat.le_trans hB hb, rest⟩

def numsI (pre : List Int) : List Value := pre.map (Value.int .i64)
/-- What stands between two rounds: the box of what was collected; all else that lay is as it was. -/
def BtwI (n₃ Bx : Nat) (w3 : World) (pre : List Int) (W : World) : Prop := (∃ v, Boxed W Bx 41 v ∧ W.ownsRow n₃ 3 1 v pre.length (numsI pre)) ∧ KpB n₃ Bx w3 W
theorem btwI_own (n₃ Bx : Nat) (w3 : World) (hn : n₃ ≤ w3.heap.size) : OwnFrom n₃ (BtwI n₃ Bx w3) := by
  rintro s W W' row ⟨⟨v, hb, ho⟩, hk⟩ hg hr
  have hne : ∀ k o, W.heap[k]? = some o → o.isCells = true → some k ≠ row := fun k o ho hc e => by
    obtain ⟨_, o', ho', hc'⟩ := hr k e.symm
    rw [ho] at ho'; cases ho'; rw [hc] at hc'; cases hc'
  have hs := hk.size
  refine ⟨⟨v, ?_, ?_⟩, hk.trans ⟨hg.os, hg.tape, hg.output, hg.size, fun k hk' _ => hg.block k (by omega) (fun e => by have := (hr k e.symm).1; omega)⟩⟩
  · unfold Boxed at hb ⊢
    rw [hg.block Bx (Array.getElem?_eq_some_iff.1 hb).1 (hne _ _ hb rfl)]; exact hb
  · refine ⟨ho.1, ?_⟩
    rcases ho.2 with hn | ⟨g, cap, cur, hv, hB, hgg, rest⟩
    · exact .inl hn
    · exact .inr ⟨g, cap, cur, hv, hB, by rw [hg.block g (Array.getElem?_eq_some_iff.1 hgg).1 (hne _ _ hgg rfl)]; exact hgg, rest⟩

theorem btw_step {W3 W w1 : World} {n₃ Bx : Nat} {v v' : Value} {pre : List Int} {y : Int} {o : Array Value} (hn : n₃ ≤ W3.heap.size) (hv : Boxed W Bx 41 v) (hrow : W.ownsRow n₃ 3 1 v pre.length (numsI pre)) (hKp : KpB n₃ Bx W3 W)
    (hown' : w1.ownsRow n₃ 3 1 v' (pre.length + 1) (numsI pre ++ [.int .i64 y])) (hg : (W.alloc (.cells o 3)).grownBy w1 v.ownBlock) :
    Boxed w1 Bx 41 v ∧ KeepsFrom n₃ W (w1.setCell ⟨Bx, 0, none⟩ v') ∧ KpB n₃ Bx W (w1.setCell ⟨Bx, 0, none⟩ v') ∧ BtwI n₃ Bx W3 (pre ++ [y]) (w1.setCell ⟨Bx, 0, none⟩ v') := by
  have hs := hKp.size
  have hv1 : Boxed w1 Bx 41 v := (hv.alloc _).kept hg (hv.not_row (by decide) hrow)
  have hg2 := grownBy_setCell' w1 Bx v'
  have hg1 := World.grownBy_alloc W (.cells o 3) none
  have hown2 := hown'.kept hg2 (.inr (fun e => hv1.not_row (by decide) hown' e.symm))
  have hsz := World.size_alloc W (.cells o 3)
  have hkp : KpB n₃ Bx W (w1.setCell ⟨Bx, 0, none⟩ v') := by
    refine ⟨hg2.os.trans (hg.os.trans hg1.os), hg2.tape.trans (hg.tape.trans hg1.tape), hg2.output.trans (hg.output.trans hg1.output), Nat.le_trans hg1.size (Nat.le_trans hg.size hg2.size), fun k hk hx => ?_⟩
    have hgs := hg.size
    rw [hg2.block k (by omega) (fun e => hx (by cases e; rfl)), hg.block k (by omega) (fun e => by have := (hrow.lt k e.symm).1; omega), hg1.block k (by omega) (by simp)]
  refine ⟨hv1, ⟨hkp.size, fun k ob _ ho hc => ?_⟩, hkp, ⟨⟨v', hv1.set v', by simpa [numsI] using hown2⟩, hKp.trans hkp⟩⟩
  have hkl : k < W.heap.size := (Array.getElem?_eq_some_iff.1 ho).1
  have hgs := hg.size
  have h1 : (W.alloc (.cells o 3)).heap[k]? = some ob := (hg1.block k hkl (by simp)).trans ho
  have h2 : w1.heap[k]? = some ob := (hg.block k (by omega) (fun e => by
    rcases own_cases hrow with ⟨rfl, _⟩ | ⟨g, cap, cur, rfl, hr, _⟩
    · cases e
    · cases e
      unfold Row5 at hr
      rw [hr] at ho; cases ho; cases hc)).trans h1
  refine (hg2.block k (by omega) (fun e => ?_)).trans h2
  cases e
  unfold Boxed at hv1
  rw [hv1] at h2; cases h2; cases hc

set_option maxRecDepth 100000 in
set_option maxHeartbeats 8000000 in
theorem between_any (w : World) (x p : Nat) (sv : Value) (ls : List (Nat × Value)) (s : St) (hx : Row5 w x 58 #[.pointer (some ⟨p, 0, none⟩)]) (hl : LvsAt w p sv ls s) (ho : Ok s) (hn : s.l.length < 4096) (hE : ∀ k ∈ content s.l, IsEntry k) (a b : ByteArray) (hne : b.toList.isEmpty = false) :
    Calls Tryd.prog 26 #[.pointer (some ⟨x, 0, none⟩), .string a, .string b] w fun e w' => ∃ tv lv, e = .returned (.tuple #[tv, lv]) ∧
      w'.ownsRow w.heap.size 3 1 tv (rangeK s.l a b).length (((rangeK s.l a b).map tidOf).map (.int .i64)) ∧ w'.ownsRow w.heap.size 3 1 lv (rangeN s.l a b).length ((rangeN s.l a b).map (.int .i64)) ∧ Below w.heap.size w w' := by
  refine (callsIn_wide (n := 5)).1 ?_
  have hb0 : Below w.heap.size w (w.alloc (.cells #[.slice none 0 0] 41)) := (Below.refl _ _).alloc (Nat.le_refl _) _
  have HL := Lib.hid (hl.fresh hb0)
  have HX := Lib.hid (hx.alloc (.cells #[.slice none 0 0] 41))
  have x0 := HX.out.cell 0
  refine callsIn_of_wp_marks Tryd.func26 rfl trivial ?_ rfl
  simp only [Tryd.ntmps26, List.size_toArray, List.length_cons, List.length_nil, Nat.reduceAdd, Nat.reduceSub, Array.replicate_succ, Array.replicate_zero, List.push_toArray, List.append_toArray, List.nil_append, List.cons_append]
  gi_wp2_with (first | (refine ⟨trivial, ?_⟩; gi_at_call 43; refine (callsIn_wide.2 (range_any _ p sv ls s HL.out ho hn a b hne)).mono ?_; rintro e w2 ⟨kv, lv, rfl, hkv, hlv, hb2⟩; have HKV := Lib.hid hkv; have HLV := Lib.hid hlv; have HB2 := Lib.hid hb2; clear hkv hlv hb2) | (refine ⟨trivial, ?_⟩; gi_at_call 44; refine (entries_in _ kv _ (own_one HKV.out)).mono ?_; rintro e w3 ⟨rfl, rfl⟩))
  obtain ⟨W3, hW3⟩ : ∃ W3, W3 = w2.alloc (.cells #[kv] 68) := ⟨_, rfl⟩
  have h3 : W3.heap.size = w2.heap.size + 1 := by rw [hW3]; exact World.size_alloc _ _
  have hs2 : w.heap.size + 1 ≤ w2.heap.size := by have := HB2.out.size; rw [World.size_alloc] at this; exact this
  have b2 : Boxed w2 w.heap.size 41 (.slice none 0 0) := (Row5.new w 41 #[.slice none 0 0]).below HB2.out (by rw [World.size_alloc]; omega)
  have hkv : ∀ b', kv.ownBlock = some b' → b' < w2.heap.size ∧ w.heap.size < b' := fun b' hb' => by
    have := HKV.out.lt b' hb'
    rw [World.size_alloc] at this; omega
  have hlv : ∀ b', lv.ownBlock = some b' → b' < w2.heap.size ∧ w.heap.size < b' := fun b' hb' => by
    have := HLV.out.lt b' hb'
    rw [World.size_alloc] at this; omega
  have hBw : Below w.heap.size w W3 := by
    rw [hW3]
    exact (((Below.refl _ _).alloc (Nat.le_refl _) _).trans (HB2.out.mono (by rw [World.size_alloc]; omega))).alloc (by omega) _
  have hlen : (rangeK s.l a b).length < 300000 := by
    rw [range_all ho.inv]
    have h1 := List.length_filter_le (within a b) (content s.l)
    have h2 : (content s.l).length ≤ 64 * s.l.length := content_few (fun y hy => Nat.le_trans (ho.few y hy) ho.f64)
    omega
  have hE' : ∀ k ∈ rangeK s.l a b, IsEntry k := fun k hk => by
    rw [range_all ho.inv] at hk
    exact hE k (List.mem_filter.1 hk).1
  have hkv3 : W3.ownsRow 0 9 1 kv (rangeK s.l a b).length ((rangeK s.l a b).map .string) := by rw [hW3]; exact own_base (HKV.out.alloc _)
  have hlv3 : W3.ownsRow w.heap.size 3 1 lv (rangeN s.l a b).length ((rangeN s.l a b).map (.int .i64)) := by rw [hW3]; exact own_sub (HLV.out.alloc _) (by rw [World.size_alloc]; omega)
  have hbox3 : W3.cell? ⟨w2.heap.size, 0, none⟩ = some kv := by rw [hW3]; exact (Row5.new w2 _ #[kv]).cell 0
  have hb3 : Boxed W3 w.heap.size 41 (.slice none 0 0) := by rw [hW3]; exact b2.alloc _
  obtain ⟨K, hK⟩ : ∃ K, rangeK s.l a b = K := ⟨_, rfl⟩
  rw [hK] at hlen hE' hkv3
  rw [← hW3]
  obtain ⟨ii, hii, hiz, his, hib⟩ := info_parts infoInt
  refine wpIn_rangeFunc_ownG rfl (by omega) (gf := 59) (lb := #[.pointer (some ⟨w2.heap.size, 0, none⟩)]) rfl trivial (enters_of Tryd.func59 (by kernel_rfl) rfl)
    (entries_stops 4 (by omega) w2.heap.size W3.heap.size w.heap.size kv K hE' hlen W3 (by omega) (Nat.le_refl _) hbox3 hkv3 (fun b' hb' => by have := hkv b' hb'; omega)) KpB.trans (kpB_b (Nat.le_refl _)) (Below.refl _ _) (fun _ => rfl)
    (BtwI W3.heap.size w.heap.size W3) (fun _ _ _ => False) (btwI_own _ _ _ (Nat.le_refl _)) (fun _ _ _ _ _ hs _ _ => hs) ⟨⟨_, hb3, World.ownsRow_nil _ _ _ _⟩, KpB.refl _ _ _⟩
    (fun y => { tmps := #[.pointer (some ⟨x, 0, none⟩), .string a, .string b, undef, undef, undef, .pointer (some ⟨w.heap.size, 0, none⟩), lv, kv, .int .i64 y, .tuple #[kv, lv], .pointer (some ⟨x, 0, none⟩), .pointer (some ⟨x, 0, none⟩), .pointer (some ⟨x, 0, none⟩), .pointer (some ⟨p, 0, none⟩), .string a, .string b, .tuple #[kv, lv], kv, lv, kv, .func (.func 59) #[] #[.pointer (some ⟨w2.heap.size, 0, none⟩)], .int .i64 y, undef, undef, undef, undef, undef, undef], defers := [] }) ?assign ?body ?done ?stop
  case assign =>
    intro l y W K' hK'
    gi_wp2
    exact hK'
  case body =>
    rintro l pre y W ⟨⟨v, hv, hrow⟩, hKp⟩ hlt
    have hc := hv.cell
    have hW : W3.heap.size ≤ W.heap.size := hKp.size
    gi_wp2_with (gi_at_builtin; refine wpListIn_append_own _ rfl _ _ 41 rfl W3.heap.size 3 ii (.int .i64 0) 1 8 Tryd.underlying41 hii hiz his hib rfl (by decide) _ _ _ rfl (hrow.alloc _) ⟨W.heap.size, 0, none⟩ 1 1 [.int .i64 y] rfl rfl (cell_one_new _ _ _) (by simp [Value.oneCell']) (by unfold maxLen; omega) (by omega) (by rw [World.size_alloc]; omega) ?_; intro v' w1 hown' hgrow _; obtain ⟨g', cap', rfl⟩ := ownsRow_succ hown'; obtain ⟨hv1, hk1, hk2, hI⟩ := btw_step (y := y) (Nat.le_refl _) hv hrow hKp hown' hgrow; have hc1 := hv1.cell; have hf1 := hv1.frozen)
    exact ⟨hk1, hk2, hI⟩
  case done =>
    rintro D ys W hD rfl ⟨⟨v, hv, hrow⟩, hKp⟩ hKd
    obtain ⟨va, vn, vc, rfl⟩ : ∃ va vn vc, v = .slice va vn vc := by
      rcases own_cases hrow with ⟨rfl, _⟩ | ⟨g', cap', cur, rfl, _⟩
      · exact ⟨_, _, _, rfl⟩
      · exact ⟨_, _, _, rfl⟩
    have hc := hv.cell
    have hf := hv.frozen
    gi_wp2
    have hWE : ∀ k, k ≠ w.heap.size → k ≠ D → ((W.setCell ⟨w.heap.size, 0, none⟩ (.slice va vn vc)).putObj D (.deferred none)).heap[k]? = W.heap[k]? := fun k h1 h2 => by
      show ((W.heap.modify w.heap.size _).setIfInBounds D _)[k]? = _
      rw [Array.getElem?_setIfInBounds, if_neg (fun e => h2 e.symm), Array.getElem?_modify, if_neg (fun e => h1 e.symm)]
    have hKd2 : (W.setCell ⟨w.heap.size, 0, none⟩ (.slice va vn vc)).heap[D]? = some (.deferred (some [])) := by
      show (W.heap.modify w.heap.size _)[D]? = _
      rw [Array.getElem?_modify, if_neg (by omega)]; exact hKd
    have hcE : ((W.setCell ⟨w.heap.size, 0, none⟩ (.slice va vn vc)).putObj D (.deferred none)).cell? ⟨w.heap.size, 0, none⟩ = some (.slice va vn vc) := by
      have h1 : ((W.setCell ⟨w.heap.size, 0, none⟩ (.slice va vn vc)).putObj D (.deferred none)).heap[w.heap.size]? = some (.cells #[.slice va vn vc] 41) := by
        show ((W.heap.modify w.heap.size _).setIfInBounds D _)[w.heap.size]? = _
        rw [Array.getElem?_setIfInBounds, if_neg (by omega), Array.getElem?_modify, if_pos rfl, show W.heap[w.heap.size]? = _ from hv]; rfl
      simp [World.cell?, h1]
    have hKk : KpB W3.heap.size w.heap.size W ((W.setCell ⟨w.heap.size, 0, none⟩ (.slice va vn vc)).putObj D (.deferred none)) :=
      ⟨rfl, rfl, rfl, by show W.heap.size ≤ ((W.heap.modify w.heap.size _).setIfInBounds D _).size; simp, fun k hk hx => hWE k hx (by omega)⟩
    refine ⟨by simp, .inl ⟨_, _, rfl, run_takeDeferred hKd2, ?_⟩⟩
    refine ⟨.tuple #[.slice va vn vc, lv], by simp [results, Tryd.results26, go_sem, hcE], .slice va vn vc, lv, rfl, ?_, ?_, ?_⟩
    · rw [hK]
      have h1 : W.ownsRow w.heap.size 3 1 (.slice va vn vc) K.length ((K.map tidOf).map (.int .i64)) := by
        have := own_sub hrow (show w.heap.size ≤ W3.heap.size by omega)
        simpa [numsI] using this
      refine ⟨h1.1, ?_⟩
      have hr2 := hrow.2
      rcases h1.2 with hn' | ⟨g', cap', cur, e, hB, hg', rest⟩
      · exact .inl hn'
      · refine .inr ⟨g', cap', cur, e, hB, ?_, rest⟩
        have hgl : W3.heap.size ≤ g' := (hrow.lt g' (by rw [e]; rfl)).1
        rw [hWE g' (by omega) (fun c => by rw [c, hKd] at hg'; cases hg')]; exact hg'
    · have h1 : W.ownsRow w.heap.size 3 1 lv (rangeN s.l a b).length ((rangeN s.l a b).map (.int .i64)) := by
        refine ⟨hlv3.1, ?_⟩
        rcases hlv3.2 with hn' | ⟨g', cap', cur, e, hB, hg', rest⟩
        · exact .inl hn'
        · have hh := hlv g' (by rw [e]; rfl)
          exact .inr ⟨g', cap', cur, e, hB, by rw [hKp.block g' (by omega) (by omega)]; exact hg', rest⟩
      refine ⟨h1.1, ?_⟩
      rcases h1.2 with hn' | ⟨g', cap', cur, e, hB, hg', rest⟩
      · exact .inl hn'
      · have hh := hlv g' (by rw [e]; rfl)
        exact .inr ⟨g', cap', cur, e, hB, by rw [hWE g' (by omega) (by omega)]; exact hg', rest⟩
    · have hkk := hKp.trans hKk
      exact ⟨hkk.os.trans hBw.os, hkk.tape.trans hBw.tape, hkk.output.trans hBw.output, Nat.le_trans hBw.size hkk.size, fun k hk => (hkk.block k (by omega) (by omega)).trans (hBw.block k hk)⟩
  case stop =>
    rintro D c pre W _ _ h _
    exact h.elim

end Go.Proofs.YtecmppmkidefmaaDoor
