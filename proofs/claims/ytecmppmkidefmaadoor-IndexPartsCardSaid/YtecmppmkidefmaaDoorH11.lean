/-
  The walk over the keys between two, and their leaves.
-/
import Derived.Test.YtecmppmkidefmaaDoorH10
import Derived.RangeFuncBox
import Derived.Maps.AppendAt
namespace Go.Proofs.YtecmppmkidefmaaDoor
open Go.RowKit LeafW

theorem infoInt : (Tryd.prog.info? 3).map (fun i => (i.zero, i.size, i.bytes)) = some (some (.int .i64 0), 1, 8) := by kernel_rfl

theorem own_other {w : World} {B B' : Nat} {T T' : TypeId} {v v' : Value} {n n' : Nat} {xs xs' : List Value} (h : w.ownsRow B T 1 v n xs) (h' : w.ownsRow B' T' 1 v' n' xs') (hT : T ≠ T') : v.ownBlock = none ∨ v.ownBlock ≠ v'.ownBlock := by
  rcases own_cases h with ⟨rfl, _⟩ | ⟨g, cap, cur, rfl, hr, _⟩
  · exact .inl rfl
  · rcases own_cases h' with ⟨rfl, _⟩ | ⟨g', cap', cur', rfl, hr', _⟩
    · exact .inr (fun e => by cases e)
    · exact .inr (fun e => row_type hr hr' hT (by simpa [Value.ownBlock] using e))
/-- What an append leaves of another slice, and of all that lay. -/
theorem app_keep {wr w1 : World} {o : Obj} {B : Nat} {T T' : TypeId} {v v' : Value} {n n' : Nat} {xs xs' : List Value} (h' : wr.ownsRow B T' 1 v' n' xs') (h : wr.ownsRow B T 1 v n xs) (hT : T' ≠ T) (hg : (wr.alloc o).grownBy w1 v.ownBlock) : w1.ownsRow B T' 1 v' n' xs' :=
  (h'.alloc o).kept hg (own_other h' h hT)
theorem app_below {w wr w1 : World} {o : Obj} {B : Nat} {T : TypeId} {v : Value} {n : Nat} {xs : List Value} (hb : Below B w wr) (hB : B ≤ w.heap.size) (h : wr.ownsRow B T 1 v n xs) (hg : (wr.alloc o).grownBy w1 v.ownBlock) : Below B w w1 :=
  (hb.alloc (Nat.le_trans hB hb.size) o).grown hg (by have := hb.size; rw [World.size_alloc]; omega) (fun k hk => (h.lt k hk).1)

theorem seg_get {l : List Leaf} {a b : ByteArray} {j : Nat} {y : Leaf} (h : (seg l a b)[j]? = some y) : l[atL l a + j]? = some y := by
  unfold seg at h
  rw [List.getElem?_drop, List.getElem?_take] at h
  split at h
  · exact h
  · cases h
theorem seg_length {l : List Leaf} (h : Inv l) (a b : ByteArray) : (seg l a b).length = atL l b + 1 - atL l a := by
  have := at_lt h b
  unfold seg; simp; omega

def numsV (l : List Leaf) (j : Nat) : List Value := (l.take j).map fun y => .int .i64 y.n
def keysK (l : List Leaf) (a b : ByteArray) (j : Nat) : List ByteArray := (content (l.take j)).filter (within a b)
theorem numsV_succ {l : List Leaf} {j : Nat} {y : Leaf} (h : l[j]? = some y) : numsV l (j + 1) = numsV l j ++ [.int .i64 y.n] := by
  obtain ⟨hj, e⟩ := List.getElem?_eq_some_iff.1 h
  unfold numsV
  rw [List.take_succ_eq_append_getElem hj, e]; simp
theorem numsV_length {l : List Leaf} {j : Nat} (h : j ≤ l.length) : (numsV l j).length = j := by unfold numsV; simp; omega
theorem keysK_succ {l : List Leaf} {a b : ByteArray} {j : Nat} {y : Leaf} (h : l[j]? = some y) : keysK l a b (j + 1) = keysK l a b j ++ y.ks.filter (within a b) := by
  unfold keysK; rw [content_take h, List.filter_append]

theorem filter_take_succ {a b : ByteArray} {ks : List ByteArray} {t : Nat} {x : ByteArray} (h : ks[t]? = some x) : (ks.take (t + 1)).filter (within a b) = (ks.take t).filter (within a b) ++ if within a b x = true then [x] else [] := by
  obtain ⟨ht, e⟩ := List.getElem?_eq_some_iff.1 h
  rw [List.take_succ_eq_append_getElem ht, e, List.filter_append]
  congr 1
  cases hw : within a b x <;> simp [hw]

set_option maxHeartbeats 4000000 in
set_option maxRecDepth 100000 in
theorem range_no (w : World) (p : Nat) (a b : ByteArray) (hne : b.toList.isEmpty = false) (hab : lt a b = false) :
    Calls Tryd.prog 43 #[.pointer (some ⟨p, 0, none⟩), .string a, .string b] w fun e w' => e = .returned (.tuple #[.slice none 0 0, .slice none 0 0]) ∧ w = w' := by
  have h1 : (Op.bytesLess b.toList a.toList || b.toList == a.toList) = true := by
    rcases lt_total a b with e | e | e
    · rw [e] at hab; cases hab
    · rw [e, beq_self_eq_true, Bool.or_true]
    · rw [show Op.bytesLess b.toList a.toList = true from e]; rfl
  go_enter Tryd.func43, Tryd.ntmps43
  go_wp2
  go_ret2
  exact ⟨rfl, rfl⟩

set_option maxHeartbeats 8000000 in
set_option maxRecDepth 100000 in
theorem range_yes (w : World) (p : Nat) (sv : Value) (ls : List (Nat × Value)) (s : St) (hl : LvsAt w p sv ls s) (ho : Ok s) (hn : s.l.length < 4096) (a b : ByteArray) (hne : b.toList.isEmpty = false) (hab : lt a b = true) :
    Calls Tryd.prog 43 #[.pointer (some ⟨p, 0, none⟩), .string a, .string b] w fun e w' => ∃ kv lv, e = .returned (.tuple #[kv, lv]) ∧
      w'.ownsRow w.heap.size 9 1 kv (rangeK s.l a b).length ((rangeK s.l a b).map .string) ∧ w'.ownsRow w.heap.size 3 1 lv (rangeN s.l a b).length ((rangeN s.l a b).map (.int .i64)) ∧ Below w.heap.size w w' := by
  have hb1 : Op.bytesLess b.toList a.toList = false := lt_asymm hab
  have hb2 : (b.toList == a.toList) = false := beq_eq_false_iff_ne.2 (fun e => lt_ne hab (ext e.symm))
  obtain ⟨g, c, rfl, hlen, h0, hc, hm⟩ := hl.slice ho.inv
  obtain ⟨N, hN⟩ : ∃ N, ls.length = N := ⟨_, rfl⟩
  rw [hN] at hl hlen h0 hc
  have c0 := hl.row.cell 1
  have hmono := at_mono ho.inv hab
  have hlt := at_lt ho.inv b
  have hsl := seg_length ho.inv a b
  obtain ⟨LA, hLA⟩ : ∃ LA, atL s.l a = LA := ⟨_, rfl⟩
  obtain ⟨LB, hLB⟩ : ∃ LB, atL s.l b = LB := ⟨_, rfl⟩
  obtain ⟨S, hS⟩ : ∃ S, seg s.l a b = S := ⟨_, rfl⟩
  have hS4 : S.length ≤ 4096 := by rw [← hS]; omega
  have hC : ∀ (j : Nat) (y : Leaf), S[j]? = some y → ∃ q a' cap, w.cell? ⟨g, LA + j, none⟩ = some (.pointer (some ⟨q, 0, none⟩)) ∧ w.cell? ⟨q, 0, none⟩ = some (.int .i64 y.n) ∧ w.cell? ⟨q, 2, none⟩ = some (.slice a' y.ks.length cap) ∧
      w.ownsRow 0 9 1 (.slice a' y.ks.length cap) y.ks.length (y.ks.map .string) ∧ g < w.heap.size ∧ q < w.heap.size := fun j y hy => by
    rw [← hS] at hy
    have := seg_get hy
    rw [hLA] at this
    exact hl.at' hN.symm (LA + j) y this
  have hrk : rangeK s.l a b = keysK S a b S.length := by unfold rangeK keysK; rw [hS, if_pos hab, List.take_length]
  have hrn : (rangeN s.l a b).map (.int .i64) = numsV S S.length := by unfold rangeN numsV; rw [hS, if_pos hab, List.take_length]; simp
  have hrl : (rangeN s.l a b).length = S.length := by unfold rangeN; rw [hS, if_pos hab]; simp
  rw [hrk, hrn, hrl]
  have hfew : ∀ j, (keysK S a b j).length ≤ 262144 := fun j => by
    have h1 : (keysK S a b j).length ≤ (content (S.take j)).length := List.length_filter_le _ _
    have h2 : (content (S.take j)).length ≤ 64 * (S.take j).length := content_few (fun y hy => by
      have hy' : y ∈ S := List.mem_of_mem_take hy
      rw [← hS] at hy'
      unfold seg at hy'
      exact Nat.le_trans (ho.few y (List.mem_of_mem_take (List.mem_of_mem_drop hy'))) ho.f64)
    have h3 : (S.take j).length ≤ S.length := by rw [List.length_take]; omega
    omega
  have hks : ∀ (j : Nat) (y : Leaf), S[j]? = some y → y.ks.length ≤ 64 := fun j y hy => by
    rw [← hS] at hy
    exact Nat.le_trans (ho.few y (List.mem_of_getElem? (seg_get hy))) ho.f64
  rw [hLA, hLB] at hmono hsl
  rw [hLB] at hlt
  rw [hS] at hsl
  have HC := Lib.hid hC
  have HL := Lib.hid hl
  have HI := Lib.hid ho.inv
  have HA := Lib.hid hLA
  have HB := Lib.hid hLB
  have HF := Lib.hid hfew
  have HK := Lib.hid hks
  obtain ⟨M, hM⟩ : ∃ M, S.length = M := ⟨_, rfl⟩
  have HM := Lib.hid hM
  rw [hM] at hsl ⊢
  have HSL := Lib.hid hsl
  unfold maxLen at hm
  have a0 : (0 : Int) ≤ (LA : Int) := by omega
  have a1 : (LA : Int) ≤ (LB : Int) + 1 := by omega
  have a2 : (LB : Int) + 1 ≤ (c : Int) := by omega
  have a3 : ¬ (c = LA) := by omega
  have a4 : (LB : Int) < 4096 := by omega
  have a5 : (0 : Int) ≤ (LB : Int) := by omega
  have a6 : LA ≤ LB + 1 := by omega
  have a7 : LB + 1 ≤ c := by omega
  have m4 : M < 4100 := by omega
  have c63 : c ≤ 9223372036854775807 := by omega
  obtain ⟨ii, hii, hiz, his, hib⟩ := info_parts infoInt
  obtain ⟨si, hsi, hsz, hss, hsb⟩ := info_parts info9
  clear hC hl ho hLA hLB hfew hks hM hrk hrn hrl hsl hS hS4 hmono hlt hm hlen hN hc hab hn h0
  go_enter Tryd.func43, Tryd.ntmps43
  go_wp2_with (go_at_call 36; refine (at_at _ _ _ _ _ HL.out HI.out _ _ HB.out).mono ?_; rintro e w1 ⟨rfl, rfl⟩)
  go_quiet ((go_at_call 36; exact at_quiet _ _ _ _ HL.out HI.out _ _ HA.out))
  go_wp2
  rw [← HSL.out]
  go_loopw [6, 7, 46] (fun kv lv i wr => ∃ j : Nat, j ≤ M ∧ i = .int .i64 j ∧ wr.ownsRow w.heap.size 9 1 kv (keysK S a b j).length ((keysK S a b j).map .string) ∧ wr.ownsRow w.heap.size 3 1 lv j (numsV S j) ∧ Below w.heap.size w wr) (fun _ _ i _ => M - (intOf i).toNat)
  case atStart => exact ⟨0, Nat.zero_le _, rfl, by simpa [keysK, content] using World.ownsRow_nil _ _ _ _, by simpa [numsV] using World.ownsRow_nil _ _ _ _, below_drewN (Below.refl _ _) _⟩
  case round =>
    obtain ⟨j, hj, rfl, hkv, hlv, hB⟩ := hrel
    have HKV := Lib.hid hkv
    have HLV := Lib.hid hlv
    have HBW := Lib.hid hB
    clear hkv hlv hB
    by_cases hlt : j < M
    · obtain ⟨y, hy⟩ : ∃ y, S[j]? = some y := ⟨_, List.getElem?_eq_getElem (by rw [HM.out]; exact hlt)⟩
      obtain ⟨q, a', cap, e0, e1, e2, ho2, hg, hq⟩ := HC.out j y hy
      have e0' := (HBW.out.cell (p := ⟨g, LA + j, none⟩) hg).trans e0
      have e1' := (HBW.out.cell (p := ⟨q, 0, none⟩) hq).trans e1
      have HY := Lib.hid hy
      have HO2 := Lib.hid ho2
      have HE2 := Lib.hid e2
      have hn64 := HK.out j y hy
      have hkj := HF.out j
      obtain ⟨wo, rfl⟩ : ∃ wo : World, wo = wr := ⟨_, rfl⟩
      clear hy ho2 e0 e1 e2
      go_wp2_with (at_builtin; refine wpList_append_own _ rfl (.tmp 50) (.tmp 55) 41 rfl w.heap.size 3 ii (.int .i64 0) 1 8 Tryd.underlying41 hii hiz his hib rfl (by decide) _ j (numsV S j) rfl (HLV.out.alloc _) ⟨wo.heap.size, 0, none⟩ 1 1 [.int .i64 y.n] rfl rfl (cell_one_new _ _ _) (by simp [Value.oneCell']) (by unfold maxLen; omega) (by omega) (by have := HBW.out.size; rw [World.size_alloc]; omega) ?_; intro v1 w1 hown1 hgrow1 _; obtain ⟨g1, cap1, rfl⟩ := ownsRow_succ hown1; have HLV1 := Lib.hid hown1; have HKV1 := Lib.hid (app_keep HKV.out HLV.out (by decide) hgrow1); have HB1 := Lib.hid (app_below HBW.out (Nat.le_refl _) HLV.out hgrow1); have e2' := (HB1.out.cell (p := ⟨q, 2, none⟩) hq).trans HE2.out; clear hown1 hgrow1)
      clear e0' e1' e2'
      obtain ⟨wi, hwi⟩ : ∃ wi : World, wi = w1 := ⟨_, rfl⟩
      subst hwi
      go_loopw [6, 62] (fun kv i wr => ∃ t : Nat, t ≤ y.ks.length ∧ i = .int .i64 t ∧ wr.ownsRow w.heap.size 9 1 kv (keysK S a b j ++ (y.ks.take t).filter (within a b)).length ((keysK S a b j ++ (y.ks.take t).filter (within a b)).map .string) ∧
        wr.ownsRow w.heap.size 3 1 (.slice (some ⟨g1, 0, none⟩) (j + 1) cap1) (j + 1) (numsV S j ++ [.int .i64 y.n]) ∧ Below w.heap.size w wr) (fun _ i _ => y.ks.length - (intOf i).toNat)
      case atStart => exact ⟨0, Nat.zero_le _, rfl, by simpa using HKV1.out, HLV1.out, HB1.out⟩
      case round =>
        obtain ⟨t, ht, rfl, hkv2, hlv2, hB2⟩ := hrel
        have HKV2 := Lib.hid hkv2
        have HLV2 := Lib.hid hlv2
        have HB2 := Lib.hid hB2
        clear hkv2 hlv2 hB2
        by_cases htl : t < y.ks.length
        · obtain ⟨x, hx⟩ : ∃ x, y.ks[t]? = some x := ⟨_, List.getElem?_eq_getElem htl⟩
          obtain ⟨kb, hkb, hkl⟩ : ∃ kb, a' = some ⟨kb, 0, none⟩ ∧ kb < w.heap.size := by
            rcases own_cases HO2.out with ⟨_, h0, _⟩ | ⟨g', cap', cur, e, hr, _⟩
            · omega
            · cases e; exact ⟨g', rfl, hr.lt⟩
          subst hkb
          have ex := (HB2.out.cell (p := ⟨kb, t, none⟩) hkl).trans (own_cell HO2.out t (.string x) (by rw [List.getElem?_map, hx]; rfl))
          have HX := Lib.hid (filter_take_succ (a := a) (b := b) hx)
          clear hx
          cases h1 : lt x a
          · cases h2 : lt x b
            · have h1' : Op.bytesLess x.toList a.toList = false := h1
              have h2' : Op.bytesLess x.toList b.toList = false := h2
              have HW := Lib.hid (show within a b x = false by unfold within; rw [h1, h2]; rfl)
              clear h1 h2
              go_wp2
              go_roundw
              case rel => exact ⟨t + 1, by omega, by go_num, by rw [HX.out, HW.out]; simpa using HKV2.out, HLV2.out, HB2.out⟩
              case measure => simp [intOf]; omega
            · have h1' : Op.bytesLess x.toList a.toList = false := h1
              have h2' : Op.bytesLess x.toList b.toList = true := h2
              have HW := Lib.hid (show within a b x = true by unfold within; rw [h1, h2]; rfl)
              have hlen : (keysK S a b j ++ (y.ks.take t).filter (within a b)).length ≤ 300000 := by
                have := List.length_filter_le (within a b) (y.ks.take t)
                have h3 : (y.ks.take t).length ≤ y.ks.length := by rw [List.length_take]; omega
                rw [List.length_append]; omega
              obtain ⟨L, hL⟩ : ∃ L, keysK S a b j ++ (y.ks.take t).filter (within a b) = L := ⟨_, rfl⟩
              rw [hL] at hlen
              have HL := Lib.hid hL
              have HKV3 : Hid (wr.ownsRow w.heap.size 9 1 u6 L.length (L.map .string)) := by rw [← hL]; exact HKV2
              clear h1 h2 hL
              go_wp2_with (at_builtin; refine wpList_append_own _ rfl (.tmp 78) (.tmp 80) 68 rfl w.heap.size 9 si (.string ⟨#[]⟩) 1 16 Tryd.underlying68 hsi hsz hss hsb rfl (by decide) _ L.length (L.map .string) rfl (HKV3.out.alloc _) ⟨wr.heap.size, 0, none⟩ 1 1 [.string x] rfl rfl (cell_one_new _ _ _) (by simp [Value.oneCell']) (by unfold maxLen; omega) (by omega) (by have := HB2.out.size; rw [World.size_alloc]; omega) ?_; intro v1 w2 hown1 hgrow1 _; obtain ⟨g2, cap2, rfl⟩ := ownsRow_succ hown1; have HKV4 := Lib.hid hown1; have HLV4 := Lib.hid (app_keep HLV2.out HKV3.out (by decide) hgrow1); have HB4 := Lib.hid (app_below HB2.out (Nat.le_refl _) HKV3.out hgrow1); clear hown1 hgrow1)
              go_roundw
              case rel => exact ⟨t + 1, by omega, by go_num, by rw [HX.out, HW.out, if_pos rfl, ← List.append_assoc, HL.out]; simpa using HKV4.out, HLV4.out, HB4.out⟩
              case measure => simp [intOf]; omega
          · have h1' : Op.bytesLess x.toList a.toList = true := h1
            have HW := Lib.hid (show within a b x = false by unfold within; rw [h1]; rfl)
            clear h1
            go_wp2
            go_roundw
            case rel => exact ⟨t + 1, by omega, by go_num, by rw [HX.out, HW.out]; simpa using HKV2.out, HLV2.out, HB2.out⟩
            case measure => simp [intOf]; omega
        · obtain rfl : t = y.ks.length := by omega
          go_wp2
          go_roundw
          case rel => exact ⟨j + 1, by omega, by go_num, by rw [keysK_succ HY.out]; have := HKV2.out; rw [List.take_length] at this; exact this, by rw [numsV_succ HY.out]; exact HLV2.out, HB2.out⟩
          case measure => simp [intOf]; omega
    · obtain rfl : j = M := by omega
      go_wp2
      go_ret2
      exact ⟨_, _, rfl, HKV.out, HLV.out, HBW.out⟩

end Go.Proofs.YtecmppmkidefmaaDoor
