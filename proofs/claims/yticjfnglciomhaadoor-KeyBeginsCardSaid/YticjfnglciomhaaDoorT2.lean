/-
  The walk over a text that is read out of a key (the reference's).
-/
import Derived.Test.YticjfnglciomhaaDoorT1
namespace Go.Proofs.YticjfnglciomhaaDoor
open Go.RowKit

/-- What the reference's text answers: the value, and how many bytes. -/
def textZ (l : List UInt8) : Int := match textL l with | some x => (l.length : Int) - x.2.length | none => 0

theorem ret_read {a b c d : Value} {x y : Int} (h : x = y) : Ending.returned (.agg #[a, b, c, d, .int .i64 x]) = .returned (.agg #[a, b, c, d, .int .i64 y]) := by rw [h]

theorem infoRead : (Tryd.prog.info? 68).map (·.size) = some 5 := by kernel_rfl
theorem byte_ne {c b : UInt8} (h : c ≠ b) : ((c.toNat : Int) == (b.toNat : Int)) = false := beq_eq_false_iff_ne.2 fun e => h (UInt8.toNat_inj.1 (by omega))

theorem byte_bne {c b : UInt8} (h : c ≠ b) : ((c.toNat : Int) != (b.toNat : Int)) = true := by unfold bne; rw [byte_ne h]; rfl
theorem all5 {a b c d e : Value} (h1 : a.oneCell' = true) (h2 : b.oneCell' = true) (h3 : c.oneCell' = true) (h4 : d.oneCell' = true) (h5 : e.oneCell' = true) : (#[a, b, c, d, e] : Array Value).all (·.oneCell') = true := by simp [*]

theorem info8 : (Tryd.prog.info? 5).map (fun i => (i.zero, i.size, i.bytes)) = some (some (.int .u8 0), 1, 1) := by kernel_rfl

def TextInv2 (s : ByteArray) (i : Nat) (acc : List UInt8) : Prop := textL s.toList = (textL (s.toList.drop i)).map fun x => (acc ++ x.1, x.2)

theorem drop_at (s : ByteArray) (i : Nat) (h : i < s.size) : s.toList.drop i = s[i] :: s.toList.drop (i + 1) := by
  have : i < s.toList.length := by rw [len_list]; exact h
  rw [List.drop_eq_getElem_cons this]
  congr 1
  simp [ByteArray.toList_eq]; rfl
theorem text_cons (c : UInt8) (l : List UInt8) (h : c ≠ 0) : textL (c :: l) = (textL l).map fun x => (c :: x.1, x.2) := by
  cases l with
  | nil => rfl
  | cons d r => simp only [textL, if_neg h]

/-- 'string(b)' of a row of bytes that the call owns. -/
theorem conv_own {w : World} {base : Nat} {v : Value} {l : List UInt8} (h : w.ownsRow base 5 1 v l.length (Lib.byteCells l)) :
    (convert 57 9 v).run Tryd.prog w = .ok (.string ⟨l.toArray⟩) w := by
  have hc := h
  rcases h.2 with ⟨rfl, h0⟩ | ⟨g, cap, cur, rfl, _⟩
  · have : l = [] := List.length_eq_zero_iff.1 h0
    subst this
    exact run_convert_bytes_nil w _ _ Tryd.underlying57 Tryd.underlying5 0 0 _ Tryd.underlying9
  · exact run_convert_bytes_back w _ _ _ ⟨g, 0, none⟩ cap l Tryd.underlying57 Tryd.underlying5 Tryd.underlying9 (fun j hj => by
      refine hc.cells (g := g) rfl j _ ?_
      simp [Lib.byteCells, hj])

set_option maxHeartbeats 2000000 in
set_option maxRecDepth 100000 in
theorem rtext_any (s : ByteArray) (hs : s.size ≤ 140737488351232) (w : World) :
    Calls Tryd.prog 54 #[.string s] w fun e w' => e = .returned (.agg #[.int .i64 0, .int .i64 0, .float .f64 0, .string ⟨(textT s.toList).toArray⟩, .int .i64 (textZ s.toList)]) ∧ Below w.heap.size w w' := by
  obtain ⟨i0, hi, hz0, hz1, hz2⟩ := info_parts info8
  go_enter Tryd.func54, Tryd.ntmps54
  go_wp2
  go_loopw [3, 4] (fun u3 u4 wr => ∃ (i : Nat) (acc : List UInt8), i ≤ s.size ∧ u4 = .int .i64 i ∧ acc.length ≤ i ∧ wr.ownsRow (w.heap.size + 1) 5 1 u3 acc.length (Lib.byteCells acc) ∧
      Hid (TextInv2 s i acc) ∧ w.heap.size + 1 ≤ wr.heap.size ∧ Hid (Below (w.heap.size + 1) (w.alloc (.cells #[.int .i64 0, .int .i64 0, .float .f64 0, .string ⟨#[]⟩, .int .i64 0] 68)) wr))
    (fun _ u4 _ => s.size - (intOf u4).toNat)
  case atStart => exact ⟨0, [], by omega, rfl, by simp, World.ownsRow_nil _ _ _ _, Lib.hid (by unfold TextInv2; rw [List.drop_zero]; cases textL s.toList <;> rfl), by simp, Lib.hid (Below.refl _ _)⟩
  case round =>
    obtain ⟨i, acc, hil, rfl, hal, hown, HI, hsz, HB⟩ := hrel
    have hrow : Row5 wr w.heap.size 68 #[.int .i64 0, .int .i64 0, .float .f64 0, .string ⟨#[]⟩, .int .i64 0] := (Row5.new w 68 _).below HB.out (by omega)
    have HROW := Lib.hid hrow
    clear hrow
    by_cases hlt : i < s.size
    · have hd := drop_at s i hlt
      by_cases hc : s[i] = 0
      · by_cases h2 : i + 1 < s.size
        · have hne : ((i : Int) + 1 == (s.size : Int)) = false := beq_eq_false_iff_ne.2 (by omega)
          have hd2 := drop_at s (i + 1) h2
          have hb0 : ((s[i].toNat : Int) != 0) = false := by rw [hc]; rfl
          generalize hdd : s[i + 1] = d at hd2
          by_cases h1 : d = 1
          · subst h1
            have hb1 : ((s[i + 1].toNat : Int) == 1) = true := by rw [hdd]; rfl
            have hn : textL s.toList = some (acc, s.toList.drop (i + 2)) := by
              rw [show textL s.toList = _ from HI.out, hd, hd2, hc]; simp [textL]
            have HN := Lib.hid hn
            have hcv := conv_own hown
            clear hn hd hd2 hc hdd
            go_wp2_with (refine wpList_store_any rfl 68 (.tmp 2) (.tmp 37) rfl w.heap.size #[.int .i64 0, .int .i64 0, .float .f64 0, .string ⟨acc.toArray⟩, .int .i64 ((i : Int) + 2)] rfl rfl 68 _ HROW.out infoRead rfl (all5 rfl rfl rfl rfl rfl) ?_; intro W2 hR0 hW0 hz0; have hR := Lib.hid hR0; have hW := Lib.hid (hW0 _ _ (HB.out.mono (Nat.le_succ _)) (Nat.le_refl _)); clear hR0 hW0 hz0)
            exact bodyPost_ret (results_cell_row rfl _ W2 w.heap.size 68 _ (0, 0) _ rfl hR.out Tryd.underlying68 rfl infoRead) rfl ⟨by unfold textT textZ; rw [HN.out]; exact ret_read (by show ((i : Int) + 2) = (s.toList.length : Int) - ((s.toList.drop (i + 2)).length : Int); rw [List.length_drop, len_list]; omega), ((Below.refl _ _).alloc (Nat.le_refl _) _).trans hW.out⟩
          · by_cases h3 : d = 255
            · subst h3
              have hb1 : ((s[i + 1].toNat : Int) == 1) = false := by rw [hdd]; rfl
              have hb2 : ((s[i + 1].toNat : Int) != 255) = false := by rw [hdd]; rfl
              have hn : TextInv2 s (i + 2) (acc ++ [0]) := by
                unfold TextInv2
                rw [show textL s.toList = _ from HI.out, hd, hd2, hc]
                simp only [textL, if_true]
                rw [if_neg (by decide)]
                cases textL (s.toList.drop (i + 1 + 1)) <;> simp
              have HN := Lib.hid hn
              clear hn hd hd2 hc hdd
              go_wp2_with (at_builtin; (refine wpList_append_own _ rfl _ _ 57 rfl (w.heap.size + 1) 5 i0 (.int .u8 0) 1 1 Tryd.underlying57 hi hz0 hz1 hz2 rfl (by decide) _ _ _ rfl (hown.alloc _) ⟨wr.heap.size, 0, none⟩ 1 1 [.int .u8 0] rfl rfl (cell_one_new _ _ _) (fun x hx => by simp at hx; subst hx; rfl) (by unfold maxLen; omega) (by omega) (by simp; omega) ?_); intro v' w3 hown' hgrow hnil)
              go_roundw
              case rel => exact ⟨i + 2, acc ++ [0], by omega, by go_num, by simp; omega, by rw [Lib.byteCells_append, List.length_append]; exact hown', HN, by have := hgrow.size; simp at this; omega, Lib.hid ((HB.out.alloc hsz _).grown hgrow (by simp; omega) (fun q hq => (hown.lt q hq).1))⟩
              case measure => simp [intOf]; omega
            · have hb1 : ((s[i + 1].toNat : Int) == 1) = false := by rw [hdd]; exact byte_ne h1
              have hb2 : ((s[i + 1].toNat : Int) != 255) = true := by rw [hdd]; exact by exact byte_bne h3
              have hn : textL s.toList = none := by
                rw [show textL s.toList = _ from HI.out, hd, hd2, hc]; simp [textL, h1, h3]
              have HN := Lib.hid hn
              clear hn hd hd2 hc hdd
              go_wp2_with ((refine wpList_store_row rfl 68 (.tmp 2) (.tmp 43) rfl w.heap.size #[.int .i64 0, .int .i64 0, .float .f64 0, .string ⟨#[]⟩, .int .i64 0] rfl rfl 68 _ HROW.out infoRead rfl (all5 rfl rfl rfl rfl rfl) ?_); have hR := Lib.hid (row5_set HROW.out #[.int .i64 0, .int .i64 0, .float .f64 0, .string ⟨#[]⟩, .int .i64 0]); have hW := Lib.hid (below_setRow (HB.out.mono (Nat.le_succ _)) (Nat.le_refl _) #[.int .i64 0, .int .i64 0, .float .f64 0, .string ⟨#[]⟩, .int .i64 0]); generalize wr.setRow w.heap.size #[.int .i64 0, .int .i64 0, .float .f64 0, .string ⟨#[]⟩, .int .i64 0] = W2 at hR hW ⊢)
              exact bodyPost_ret (results_cell_row rfl _ W2 w.heap.size 68 _ (0, 0) _ rfl hR.out Tryd.underlying68 rfl infoRead) rfl ⟨by unfold textT textZ; rw [HN.out], ((Below.refl _ _).alloc (Nat.le_refl _) _).trans hW.out⟩
        · have heq : ((i : Int) + 1 == (s.size : Int)) = true := beq_iff_eq.2 (by omega)
          have hb0 : ((s[i].toNat : Int) != 0) = false := by rw [hc]; rfl
          have hn : textL s.toList = none := by
            rw [show textL s.toList = _ from HI.out, hd, List.drop_of_length_le (by rw [len_list]; omega), hc]; rfl
          have HN := Lib.hid hn
          clear hn hd hc
          go_wp2_with ((refine wpList_store_row rfl 68 (.tmp 2) (.tmp 26) rfl w.heap.size #[.int .i64 0, .int .i64 0, .float .f64 0, .string ⟨#[]⟩, .int .i64 0] rfl rfl 68 _ HROW.out infoRead rfl (all5 rfl rfl rfl rfl rfl) ?_); have hR := Lib.hid (row5_set HROW.out #[.int .i64 0, .int .i64 0, .float .f64 0, .string ⟨#[]⟩, .int .i64 0]); have hW := Lib.hid (below_setRow (HB.out.mono (Nat.le_succ _)) (Nat.le_refl _) #[.int .i64 0, .int .i64 0, .float .f64 0, .string ⟨#[]⟩, .int .i64 0]); generalize wr.setRow w.heap.size #[.int .i64 0, .int .i64 0, .float .f64 0, .string ⟨#[]⟩, .int .i64 0] = W2 at hR hW ⊢)
          exact bodyPost_ret (results_cell_row rfl _ W2 w.heap.size 68 _ (0, 0) _ rfl hR.out Tryd.underlying68 rfl infoRead) rfl ⟨by unfold textT textZ; rw [HN.out], ((Below.refl _ _).alloc (Nat.le_refl _) _).trans hW.out⟩
      · have hb0 : ((s[i].toNat : Int) != 0) = true := byte_bne hc
        have hn : TextInv2 s (i + 1) (acc ++ [s[i]]) := by
          unfold TextInv2
          rw [show textL s.toList = _ from HI.out, hd, text_cons _ _ hc]
          cases textL (s.toList.drop (i + 1)) <;> simp
        have HN := Lib.hid hn
        clear hn hd hc
        go_wp2_with (at_builtin; (refine wpList_append_own _ rfl _ _ 57 rfl (w.heap.size + 1) 5 i0 (.int .u8 0) 1 1 Tryd.underlying57 hi hz0 hz1 hz2 rfl (by decide) _ _ _ rfl (hown.alloc _) ⟨wr.heap.size, 0, none⟩ 1 1 [.int .u8 (s[i].toNat : Int)] rfl rfl (cell_one_new _ _ _) (fun x hx => by simp at hx; subst hx; rfl) (by unfold maxLen; omega) (by omega) (by simp; omega) ?_); intro v' w3 hown' hgrow hnil)
        go_roundw
        case rel => exact ⟨i + 1, acc ++ [s[i]], by omega, by go_num, by simp; omega, by rw [Lib.byteCells_append, List.length_append]; exact hown', HN, by have := hgrow.size; simp at this; omega, Lib.hid ((HB.out.alloc hsz _).grown hgrow (by simp; omega) (fun q hq => (hown.lt q hq).1))⟩
        case measure => simp [intOf]; omega
    · have hn : textL s.toList = none := by
        rw [show textL s.toList = _ from HI.out, List.drop_of_length_le (by rw [len_list]; omega)]; rfl
      have HN := Lib.hid hn
      clear hn
      go_wp2_with ((refine wpList_store_row rfl 68 (.tmp 2) (.tmp 49) rfl w.heap.size #[.int .i64 0, .int .i64 0, .float .f64 0, .string ⟨#[]⟩, .int .i64 0] rfl rfl 68 _ HROW.out infoRead rfl (all5 rfl rfl rfl rfl rfl) ?_); have hR := Lib.hid (row5_set HROW.out #[.int .i64 0, .int .i64 0, .float .f64 0, .string ⟨#[]⟩, .int .i64 0]); have hW := Lib.hid (below_setRow (HB.out.mono (Nat.le_succ _)) (Nat.le_refl _) #[.int .i64 0, .int .i64 0, .float .f64 0, .string ⟨#[]⟩, .int .i64 0]); generalize wr.setRow w.heap.size #[.int .i64 0, .int .i64 0, .float .f64 0, .string ⟨#[]⟩, .int .i64 0] = W2 at hR hW ⊢)
      exact bodyPost_ret (results_cell_row rfl _ W2 w.heap.size 68 _ (0, 0) _ rfl hR.out Tryd.underlying68 rfl infoRead) rfl ⟨by unfold textT textZ; rw [HN.out], ((Below.refl _ _).alloc (Nat.le_refl _) _).trans hW.out⟩

end Go.Proofs.YticjfnglciomhaaDoor
