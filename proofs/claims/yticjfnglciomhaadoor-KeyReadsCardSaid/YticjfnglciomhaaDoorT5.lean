/-
  The walk over the value with which a key begins, and how many bytes it has (the reference's).
-/
import Derived.Test.YticjfnglciomhaaDoorT4
namespace Go.Proofs.YticjfnglciomhaaDoor
open Go.RowKit

/-- The value that is read and how many bytes it has, or noughts. -/
def r5 (t : Nat) (o : Option (Val × List UInt8)) : Value := match o with
  | some x => .agg #[.int .i64 x.1.k, .int .i64 x.1.n, .float .f64 x.1.f, .string ⟨x.1.l.toArray⟩, .int .i64 ((t : Int) - x.2.length)]
  | none => .agg #[.int .i64 0, .int .i64 0, .float .f64 0, .string ⟨#[]⟩, .int .i64 0]
theorem r5_some {t : Nat} {o : Option (Val × List UInt8)} {v : Val} {r : List UInt8} {z : Int} (h : o = some (v, r)) (hz : z = (t : Int) - r.length) :
    Ending.returned (.agg #[.int .i64 v.k, .int .i64 v.n, .float .f64 v.f, .string ⟨v.l.toArray⟩, .int .i64 z]) = .returned (r5 t o) := by subst h hz; rfl
theorem r5_none {t : Nat} {o : Option (Val × List UInt8)} (h : o = none) : Ending.returned (.agg #[.int .i64 0, .int .i64 0, .float .f64 0, .string ⟨#[]⟩, .int .i64 0]) = .returned (r5 t o) := by subst h; rfl
theorem infoFrom : (Tryd.prog.info? 86).map (·.size) = some 2 := by kernel_rfl

/-- What the reference's reader has laid: its answer's cells, the value's cells. -/
structure LaidR (w0 w : World) (A B : Array Value) : Prop where
  a : Row5 w w0.heap.size 68 A
  b : Row5 w (w0.heap.size + 1) 24 B
  size : w0.heap.size + 2 ≤ w.heap.size
  below : Below w0.heap.size w0 w
theorem LaidR.call {w0 w w' : World} {A B : Array Value} (h : LaidR w0 w A B) (hb : Below w.heap.size w w') : LaidR w0 w' A B :=
  have hs := h.size
  have := hb.size
  ⟨h.a.below hb (by omega), h.b.below hb (by omega), by omega, h.below.trans (hb.mono (by omega))⟩
theorem LaidR.alloc {w0 w : World} {A B : Array Value} (h : LaidR w0 w A B) (o : Obj) : LaidR w0 (w.alloc o) A B := h.call ((Below.refl _ _).alloc (Nat.le_refl _) o)
theorem LaidR.drew {w0 w : World} {A B : Array Value} (h : LaidR w0 w A B) : LaidR w0 w.drew A B := h.call (Below.refl _ _).drew
theorem LaidR.field {w0 w w' : World} {A B B' : Array Value} (h : LaidR w0 w A B) (hr : Row5 w' (w0.heap.size + 1) 24 B') (hb : ∀ C x, Below C x w → C ≤ w0.heap.size + 1 → Below C x w') (hz : w.heap.size ≤ w'.heap.size) : LaidR w0 w' A B' :=
  have hs := h.size
  ⟨h.a.below (hb (w0.heap.size + 1) w (Below.refl _ _) (Nat.le_refl _)) (by omega), hr, by omega, hb _ _ h.below (by omega)⟩
theorem LaidR.start (w0 : World) (A B : Array Value) : LaidR w0 ((w0.alloc (.cells A 68)).alloc (.cells B 24)) A B := by
  have hz : (w0.alloc (.cells A 68)).heap.size = w0.heap.size + 1 := by show (w0.heap.push _).size = _; rw [Array.size_push]
  have h2 := Row5.new (w0.alloc (.cells A 68)) 24 B
  rw [hz] at h2
  exact ⟨(Row5.new w0 _ A).alloc _, h2, by simp, ((Below.refl _ _).alloc (Nat.le_refl _) _).alloc (by simp) _⟩
theorem num_slice (s : ByteArray) : numL (s.extract 1 9).toList = numL ((s.toList.drop 1).take 8) := by
  rw [ByteArray.toList_eq, Lib.extract_data, ← ByteArray.toList_eq]
theorem size_slice (s : ByteArray) (h : 9 ≤ s.size) : (s.extract 1 9).size = 8 := by rw [ByteArray.size_extract]; omega

theorem text_length {l t r : List UInt8} (h : textL l = some (t, r)) : r.length + 2 ≤ l.length := by
  have := KeyW.esc_text _ _ _ h
  rw [this, List.length_append, List.length_cons, List.length_cons]; omega
theorem read_empty (w : World) :
    Calls Tryd.prog 36 #[.string ⟨#[]⟩] w fun e w' => e = .returned (r5 0 none) ∧ Below w.heap.size w w' := by
  go_enter Tryd.func36, Tryd.ntmps36
  go_wp2
  exact bodyPost_ret (v := r5 0 none) (by simp [results, Tryd.results36, go_sem, r5]) rfl ⟨rfl, (Below.refl _ _).alloc (Nat.le_refl _) _⟩

set_option maxHeartbeats 2000000 in
set_option maxRecDepth 100000 in
theorem read_0 (s : ByteArray) (h0 : 0 < s.size) (hc : s[0] = 0) (w : World) :
    Calls Tryd.prog 36 #[.string s] w fun e w' => e = .returned (r5 s.size (firstL s.toList)) ∧ Below w.heap.size w w' := by
  have hne := not_empty h0
  have a0 : (0 : Int) < (s.size : Int) := by omega
  have hk : (s[0].toNat : Int) = 0 := by rw [hc]; rfl
  have hg : goodV 0 0 0 [] = true := by decide
  have HZ := Lib.hid (show (1 : Int) = (s.size : Int) - ((s.toList.drop 1).length : Int) by rw [List.length_drop, len_list]; omega)
  have HF := Lib.hid (show firstL s.toList = some (⟨0, 0, 0, []⟩, s.toList.drop 1) by rw [first_at h0 hc]; rfl)
  clear hc
  have HL := Lib.hid (LaidR.start w #[.int .i64 0, .int .i64 0, .float .f64 0, .string ⟨#[]⟩, .int .i64 0] #[.int .i64 0, .int .i64 0, .float .f64 0, .string ⟨#[]⟩])
  have b0 := HL.out.b.cell 0; have b1 := HL.out.b.cell 1; have b2 := HL.out.b.cell 2; have b3 := HL.out.b.cell 3
  go_enter Tryd.func36, Tryd.ntmps36
  go_wp2_with (first | (go_at_call 9; refine (good_ref _ _ _ _ _).mono ?_; rintro e w1 ⟨rfl, hb⟩; replace HL := Lib.hid (HL.out.call hb); clear b0 b1 b2 b3; have b0 := HL.out.b.cell 0; have b1 := HL.out.b.cell 1; have b2 := HL.out.b.cell 2; have b3 := HL.out.b.cell 3; clear hb) | (refine wpList_store_any rfl 68 (.tmp 2) (.tmp 77) rfl w.heap.size #[.int .i64 0, .int .i64 0, .float .f64 0, .string ⟨#[]⟩, .int .i64 1] rfl rfl 68 _ (HL.out).a infoRead rfl (all5 rfl rfl rfl rfl rfl) ?_; intro W2 hR0 hW0 hz0; have hR := Lib.hid hR0; have hW := Lib.hid (hW0 _ _ (HL.out).below (Nat.le_refl _)); clear hR0 hW0 hz0))
  exact bodyPost_ret (results_cell_row rfl _ W2 w.heap.size 68 _ (0, 0) _ rfl hR.out Tryd.underlying68 rfl infoRead) rfl ⟨r5_some HF.out HZ.out, hW.out⟩

set_option maxHeartbeats 2000000 in
set_option maxRecDepth 100000 in
theorem read_5 (s : ByteArray) (h0 : 0 < s.size) (h0k : s[0] ≠ 0) (h1k : s[0] ≠ 1) (h2k : s[0] ≠ 2) (h3k : s[0] ≠ 3) (h4k : s[0] ≠ 4) (w : World) :
    Calls Tryd.prog 36 #[.string s] w fun e w' => e = .returned (r5 s.size (firstL s.toList)) ∧ Below w.heap.size w w' := by
  have hne := not_empty h0
  have a0 : (0 : Int) < (s.size : Int) := by omega
  have e0 : ((s[0].toNat : Int) == 0) = false := byte_ne h0k
  have e1 : ((s[0].toNat : Int) == 1) = false := byte_ne h1k
  have e2 : ((s[0].toNat : Int) == 2) = false := byte_ne h2k
  have e3 : ((s[0].toNat : Int) == 3) = false := byte_ne h3k
  have e4 : ((s[0].toNat : Int) == 4) = false := byte_ne h4k
  have hg : goodV (s[0].toNat : Int) 0 0 [] = false := by unfold goodV; rw [if_neg (ne_of_beq_false e0), if_neg (ne_of_beq_false e1), if_neg (ne_of_beq_false e2), if_neg (ne_of_beq_false e3), if_neg (ne_of_beq_false e4)]
  have HF := Lib.hid (show firstL s.toList = none by rw [first_list h0]; simp only [firstL, if_neg h0k, if_neg h1k, if_neg h2k, if_neg h3k, if_neg h4k])
  clear h0k h1k h2k h3k h4k
  have hk0 : (0 : Int) ≤ (s[0].toNat : Int) := by omega
  have hk1 : (s[0].toNat : Int) < 256 := by have := s[0].toNat_lt; omega
  obtain ⟨kk, hkk⟩ : ∃ kk : Int, (s[0].toNat : Int) = kk := ⟨_, rfl⟩
  rw [hkk] at e0 e1 e2 e3 e4 hg hk0 hk1
  have hw : wrap64 kk = kk := w64_in kk (by omega)
  have HL := Lib.hid (LaidR.start w #[.int .i64 0, .int .i64 0, .float .f64 0, .string ⟨#[]⟩, .int .i64 0] #[.int .i64 kk, .int .i64 0, .float .f64 0, .string ⟨#[]⟩])
  have b0 := HL.out.b.cell 0; have b1 := HL.out.b.cell 1; have b2 := HL.out.b.cell 2; have b3 := HL.out.b.cell 3
  go_enter Tryd.func36, Tryd.ntmps36
  go_wp2_with (first | (go_at_call 9; refine (good_ref _ _ _ _ _).mono ?_; rintro e w1 ⟨rfl, hb⟩; replace HL := Lib.hid (HL.out.call hb); clear b0 b1 b2 b3; have b0 := HL.out.b.cell 0; have b1 := HL.out.b.cell 1; have b2 := HL.out.b.cell 2; have b3 := HL.out.b.cell 3; clear hb) | (refine wpList_store_any rfl 68 (.tmp 2) (.tmp 74) rfl w.heap.size #[.int .i64 0, .int .i64 0, .float .f64 0, .string ⟨#[]⟩, .int .i64 0] rfl rfl 68 _ (HL.out).a infoRead rfl (all5 rfl rfl rfl rfl rfl) ?_; intro W2 hR0 hW0 hz0; have hR := Lib.hid hR0; have hW := Lib.hid (hW0 _ _ (HL.out).below (Nat.le_refl _)); clear hR0 hW0 hz0))
  exact bodyPost_ret (results_cell_row rfl _ W2 w.heap.size 68 _ (0, 0) _ rfl hR.out Tryd.underlying68 rfl infoRead) rfl ⟨r5_none HF.out, hW.out⟩

set_option maxHeartbeats 2000000 in
set_option maxRecDepth 100000 in
theorem read_1e (s : ByteArray) (h0 : 0 < s.size) (hc : s[0] = 1) (h1 : s.size = 1) (w : World) :
    Calls Tryd.prog 36 #[.string s] w fun e w' => e = .returned (r5 s.size (firstL s.toList)) ∧ Below w.heap.size w w' := by
  have hne := not_empty h0
  have a0 : (0 : Int) < (s.size : Int) := by omega
  have hk : (s[0].toNat : Int) = 1 := by rw [hc]; rfl
  have hlt : (s.size : Int) < 2 := by omega
  have HF := Lib.hid (show firstL s.toList = none by rw [first_at h0 hc, List.drop_of_length_le (by rw [len_list]; omega)]; rfl)
  clear hc h1
  have HL := Lib.hid (LaidR.start w #[.int .i64 0, .int .i64 0, .float .f64 0, .string ⟨#[]⟩, .int .i64 0] #[.int .i64 1, .int .i64 0, .float .f64 0, .string ⟨#[]⟩])
  have b0 := HL.out.b.cell 0; have b1 := HL.out.b.cell 1; have b2 := HL.out.b.cell 2; have b3 := HL.out.b.cell 3
  go_enter Tryd.func36, Tryd.ntmps36
  go_wp2_with (first | (refine wpList_store_any rfl 68 (.tmp 2) (.tmp 21) rfl w.heap.size #[.int .i64 0, .int .i64 0, .float .f64 0, .string ⟨#[]⟩, .int .i64 0] rfl rfl 68 _ (HL.out).a infoRead rfl (all5 rfl rfl rfl rfl rfl) ?_; intro W2 hR0 hW0 hz0; have hR := Lib.hid hR0; have hW := Lib.hid (hW0 _ _ (HL.out).below (Nat.le_refl _)); clear hR0 hW0 hz0))
  exact bodyPost_ret (results_cell_row rfl _ W2 w.heap.size 68 _ (0, 0) _ rfl hR.out Tryd.underlying68 rfl infoRead) rfl ⟨r5_none HF.out, hW.out⟩

set_option maxHeartbeats 2000000 in
set_option maxRecDepth 100000 in
theorem read_1y (s : ByteArray) (h0 : 0 < s.size) (hc : s[0] = 1) (h1 : 1 < s.size) (hb : s[1] ≤ 1) (w : World) :
    Calls Tryd.prog 36 #[.string s] w fun e w' => e = .returned (r5 s.size (firstL s.toList)) ∧ Below w.heap.size w w' := by
  have hne := not_empty h0
  have a0 : (0 : Int) < (s.size : Int) := by omega
  have hk : (s[0].toNat : Int) = 1 := by rw [hc]; rfl
  have hlt : ¬ (s.size : Int) < 2 := by omega
  have a1 : (1 : Int) < (s.size : Int) := by omega
  have hg : goodV 1 (s[1].toNat : Int) 0 [] = true := by have h1 : (1 : UInt8).toNat = 1 := rfl; rw [UInt8.le_iff_toNat_le, h1] at hb; unfold goodV; simp; omega
  have HZ := Lib.hid (show (2 : Int) = (s.size : Int) - ((s.toList.drop 2).length : Int) by rw [List.length_drop, len_list]; omega)
  have HF := Lib.hid (show firstL s.toList = some (⟨1, (s[1].toNat : Int), 0, []⟩, s.toList.drop 2) by rw [first_at h0 hc, drop_at s 1 h1]; simp [firstL, hb])
  clear hc hb
  have hk0 : (0 : Int) ≤ (s[1].toNat : Int) := by omega
  have hk1 : (s[1].toNat : Int) < 256 := by have := s[1].toNat_lt; omega
  obtain ⟨kk, hkk⟩ : ∃ kk : Int, (s[1].toNat : Int) = kk := ⟨_, rfl⟩
  rw [hkk] at hg hk0 hk1 HF
  have hw : wrap64 kk = kk := w64_in kk (by omega)
  have HL := Lib.hid (LaidR.start w #[.int .i64 0, .int .i64 0, .float .f64 0, .string ⟨#[]⟩, .int .i64 0] #[.int .i64 1, .int .i64 kk, .float .f64 0, .string ⟨#[]⟩])
  have b0 := HL.out.b.cell 0; have b1 := HL.out.b.cell 1; have b2 := HL.out.b.cell 2; have b3 := HL.out.b.cell 3
  go_enter Tryd.func36, Tryd.ntmps36
  go_wp2_with (first | (go_at_call 9; refine (good_ref _ _ _ _ _).mono ?_; rintro e w1 ⟨rfl, hb⟩; replace HL := Lib.hid (HL.out.call hb); clear b0 b1 b2 b3; have b0 := HL.out.b.cell 0; have b1 := HL.out.b.cell 1; have b2 := HL.out.b.cell 2; have b3 := HL.out.b.cell 3; clear hb) | (refine wpList_store_any rfl 68 (.tmp 2) (.tmp 77) rfl w.heap.size #[.int .i64 1, .int .i64 kk, .float .f64 0, .string ⟨#[]⟩, .int .i64 2] rfl rfl 68 _ (HL.out).a infoRead rfl (all5 rfl rfl rfl rfl rfl) ?_; intro W2 hR0 hW0 hz0; have hR := Lib.hid hR0; have hW := Lib.hid (hW0 _ _ (HL.out).below (Nat.le_refl _)); clear hR0 hW0 hz0))
  exact bodyPost_ret (results_cell_row rfl _ W2 w.heap.size 68 _ (0, 0) _ rfl hR.out Tryd.underlying68 rfl infoRead) rfl ⟨r5_some HF.out HZ.out, hW.out⟩

set_option maxHeartbeats 2000000 in
set_option maxRecDepth 100000 in
theorem read_1n (s : ByteArray) (h0 : 0 < s.size) (hc : s[0] = 1) (h1 : 1 < s.size) (hb : ¬ s[1] ≤ 1) (w : World) :
    Calls Tryd.prog 36 #[.string s] w fun e w' => e = .returned (r5 s.size (firstL s.toList)) ∧ Below w.heap.size w w' := by
  have hne := not_empty h0
  have a0 : (0 : Int) < (s.size : Int) := by omega
  have hk : (s[0].toNat : Int) = 1 := by rw [hc]; rfl
  have hlt : ¬ (s.size : Int) < 2 := by omega
  have a1 : (1 : Int) < (s.size : Int) := by omega
  have hg : goodV 1 (s[1].toNat : Int) 0 [] = false := by have h1 : (1 : UInt8).toNat = 1 := rfl; rw [UInt8.le_iff_toNat_le, h1] at hb; unfold goodV; simp; omega
  have HZ := Lib.hid (show (2 : Int) = (s.size : Int) - ((s.toList.drop 2).length : Int) by rw [List.length_drop, len_list]; omega)
  have HF := Lib.hid (show firstL s.toList = none by rw [first_at h0 hc, drop_at s 1 h1]; simp [firstL, hb])
  clear hc hb
  have hk0 : (0 : Int) ≤ (s[1].toNat : Int) := by omega
  have hk1 : (s[1].toNat : Int) < 256 := by have := s[1].toNat_lt; omega
  obtain ⟨kk, hkk⟩ : ∃ kk : Int, (s[1].toNat : Int) = kk := ⟨_, rfl⟩
  rw [hkk] at hg hk0 hk1
  have hw : wrap64 kk = kk := w64_in kk (by omega)
  have HL := Lib.hid (LaidR.start w #[.int .i64 0, .int .i64 0, .float .f64 0, .string ⟨#[]⟩, .int .i64 0] #[.int .i64 1, .int .i64 kk, .float .f64 0, .string ⟨#[]⟩])
  have b0 := HL.out.b.cell 0; have b1 := HL.out.b.cell 1; have b2 := HL.out.b.cell 2; have b3 := HL.out.b.cell 3
  go_enter Tryd.func36, Tryd.ntmps36
  go_wp2_with (first | (go_at_call 9; refine (good_ref _ _ _ _ _).mono ?_; rintro e w1 ⟨rfl, hb⟩; replace HL := Lib.hid (HL.out.call hb); clear b0 b1 b2 b3; have b0 := HL.out.b.cell 0; have b1 := HL.out.b.cell 1; have b2 := HL.out.b.cell 2; have b3 := HL.out.b.cell 3; clear hb) | (refine wpList_store_any rfl 68 (.tmp 2) (.tmp 74) rfl w.heap.size #[.int .i64 0, .int .i64 0, .float .f64 0, .string ⟨#[]⟩, .int .i64 0] rfl rfl 68 _ (HL.out).a infoRead rfl (all5 rfl rfl rfl rfl rfl) ?_; intro W2 hR0 hW0 hz0; have hR := Lib.hid hR0; have hW := Lib.hid (hW0 _ _ (HL.out).below (Nat.le_refl _)); clear hR0 hW0 hz0))
  exact bodyPost_ret (results_cell_row rfl _ W2 w.heap.size 68 _ (0, 0) _ rfl hR.out Tryd.underlying68 rfl infoRead) rfl ⟨r5_none HF.out, hW.out⟩

set_option maxHeartbeats 2000000 in
set_option maxRecDepth 100000 in
theorem read_2n (s : ByteArray) (h0 : 0 < s.size) (hc : s[0] = 2) (h8 : s.size < 9) (w : World) :
    Calls Tryd.prog 36 #[.string s] w fun e w' => e = .returned (r5 s.size (firstL s.toList)) ∧ Below w.heap.size w w' := by
  have hne := not_empty h0
  have a0 : (0 : Int) < (s.size : Int) := by omega
  have hk : (s[0].toNat : Int) = 2 := by rw [hc]; rfl
  have hlt : (s.size : Int) < 9 := by omega
  have HF := Lib.hid (show firstL s.toList = none by rw [first_at h0 hc, first_l2, if_pos (by rw [List.length_drop, len_list]; omega)])
  clear hc
  have HL := Lib.hid (LaidR.start w #[.int .i64 0, .int .i64 0, .float .f64 0, .string ⟨#[]⟩, .int .i64 0] #[.int .i64 2, .int .i64 0, .float .f64 0, .string ⟨#[]⟩])
  have b0 := HL.out.b.cell 0; have b1 := HL.out.b.cell 1; have b2 := HL.out.b.cell 2; have b3 := HL.out.b.cell 3
  go_enter Tryd.func36, Tryd.ntmps36
  go_wp2_with (first | (refine wpList_store_any rfl 68 (.tmp 2) (.tmp 31) rfl w.heap.size #[.int .i64 0, .int .i64 0, .float .f64 0, .string ⟨#[]⟩, .int .i64 0] rfl rfl 68 _ (HL.out).a infoRead rfl (all5 rfl rfl rfl rfl rfl) ?_; intro W2 hR0 hW0 hz0; have hR := Lib.hid hR0; have hW := Lib.hid (hW0 _ _ (HL.out).below (Nat.le_refl _)); clear hR0 hW0 hz0))
  exact bodyPost_ret (results_cell_row rfl _ W2 w.heap.size 68 _ (0, 0) _ rfl hR.out Tryd.underlying68 rfl infoRead) rfl ⟨r5_none HF.out, hW.out⟩

set_option maxHeartbeats 2000000 in
set_option maxRecDepth 100000 in
theorem read_3n (s : ByteArray) (h0 : 0 < s.size) (hc : s[0] = 3) (h8 : s.size < 9) (w : World) :
    Calls Tryd.prog 36 #[.string s] w fun e w' => e = .returned (r5 s.size (firstL s.toList)) ∧ Below w.heap.size w w' := by
  have hne := not_empty h0
  have a0 : (0 : Int) < (s.size : Int) := by omega
  have hk : (s[0].toNat : Int) = 3 := by rw [hc]; rfl
  have hlt : (s.size : Int) < 9 := by omega
  have HF := Lib.hid (show firstL s.toList = none by rw [first_at h0 hc, first_l3, if_pos (by rw [List.length_drop, len_list]; omega)])
  clear hc
  have HL := Lib.hid (LaidR.start w #[.int .i64 0, .int .i64 0, .float .f64 0, .string ⟨#[]⟩, .int .i64 0] #[.int .i64 3, .int .i64 0, .float .f64 0, .string ⟨#[]⟩])
  have b0 := HL.out.b.cell 0; have b1 := HL.out.b.cell 1; have b2 := HL.out.b.cell 2; have b3 := HL.out.b.cell 3
  go_enter Tryd.func36, Tryd.ntmps36
  go_wp2_with (first | (refine wpList_store_any rfl 68 (.tmp 2) (.tmp 43) rfl w.heap.size #[.int .i64 0, .int .i64 0, .float .f64 0, .string ⟨#[]⟩, .int .i64 0] rfl rfl 68 _ (HL.out).a infoRead rfl (all5 rfl rfl rfl rfl rfl) ?_; intro W2 hR0 hW0 hz0; have hR := Lib.hid hR0; have hW := Lib.hid (hW0 _ _ (HL.out).below (Nat.le_refl _)); clear hR0 hW0 hz0))
  exact bodyPost_ret (results_cell_row rfl _ W2 w.heap.size 68 _ (0, 0) _ rfl hR.out Tryd.underlying68 rfl infoRead) rfl ⟨r5_none HF.out, hW.out⟩

set_option maxHeartbeats 2000000 in
set_option maxRecDepth 100000 in
theorem read_2y (s : ByteArray) (h0 : 0 < s.size) (hc : s[0] = 2) (h8 : 9 ≤ s.size) (w : World) :
    Calls Tryd.prog 36 #[.string s] w fun e w' => e = .returned (r5 s.size (firstL s.toList)) ∧ Below w.heap.size w w' := by
  have hne := not_empty h0
  have a0 : (0 : Int) < (s.size : Int) := by omega
  have hk : (s[0].toNat : Int) = 2 := by rw [hc]; rfl
  have hlt : ¬ (s.size : Int) < 9 := by omega
  have hl8 : ((s.toList.drop 1).take 8).length = 8 := by rw [List.length_take, List.length_drop, len_list]; omega
  have a1 : (9 : Int) ≤ (s.size : Int) := by omega
  have hn : numL (s.extract 1 9).toList = numL ((s.toList.drop 1).take 8) := num_slice s
  have HS := Lib.hid (size_slice s h8)
  have HZ := Lib.hid (show (9 : Int) = (s.size : Int) - (((s.toList.drop 1).drop 8).length : Int) by rw [List.length_drop, List.length_drop, len_list]; omega)
  have HF := Lib.hid (show firstL s.toList = some (⟨2, (numL ((s.toList.drop 1).take 8) : Int) - 9223372036854775808, 0, []⟩, (s.toList.drop 1).drop 8) by rw [first_at h0 hc, first_l2, if_neg (by rw [List.length_drop, len_list]; omega)])
  obtain ⟨q, hf1, hf2⟩ := unflip _ (KeyW.num_lt hl8)
  generalize numL ((s.toList.drop 1).take 8) = u at hn HF hf1 hf2
  have hg : goodV 2 ((u : Int) - 9223372036854775808) 0 [] = true := rfl
  generalize hn0 : ((u : Int) - 9223372036854775808) = nn at hf2 HF hg
  clear hc hl8 hn0
  have HL := Lib.hid (LaidR.start w #[.int .i64 0, .int .i64 0, .float .f64 0, .string ⟨#[]⟩, .int .i64 0] #[.int .i64 2, .int .i64 0, .float .f64 0, .string ⟨#[]⟩])
  have b0 := HL.out.b.cell 0; have b1 := HL.out.b.cell 1; have b2 := HL.out.b.cell 2; have b3 := HL.out.b.cell 3
  go_enter Tryd.func36, Tryd.ntmps36
  go_wp2_with (first | (go_at_call 52; refine (number_any _ HS.out _).mono ?_; rintro e w1 ⟨rfl, hb⟩; replace HL := Lib.hid (HL.out.call hb); clear b0 b1 b2 b3; have b0 := HL.out.b.cell 0; have b1 := HL.out.b.cell 1; have b2 := HL.out.b.cell 2; have b3 := HL.out.b.cell 3; clear hb) | (refine wpList_field_any rfl 2 (.tmp 37) (.tmp 36) rfl (w.heap.size + 1) 1 (.int .i64 nn) rfl rfl rfl 24 _ #[.int .i64 2, .int .i64 nn, .float .f64 0, .string ⟨#[]⟩] (HL.out).b rfl rfl infoI64 ?_; intro w2 hR0 hW0 hz0; replace HL := Lib.hid ((HL.out).field hR0 hW0 hz0); clear b0 b1 b2 b3; have b0 := HL.out.b.cell 0; have b1 := HL.out.b.cell 1; have b2 := HL.out.b.cell 2; have b3 := HL.out.b.cell 3; clear hR0 hW0 hz0) | (go_at_call 9; refine (good_ref _ _ _ _ _).mono ?_; rintro e w1 ⟨rfl, hb⟩; replace HL := Lib.hid (HL.out.call hb); clear b0 b1 b2 b3; have b0 := HL.out.b.cell 0; have b1 := HL.out.b.cell 1; have b2 := HL.out.b.cell 2; have b3 := HL.out.b.cell 3; clear hb) | (refine wpList_store_any rfl 68 (.tmp 2) (.tmp 77) rfl w.heap.size #[.int .i64 2, .int .i64 nn, .float .f64 0, .string ⟨#[]⟩, .int .i64 9] rfl rfl 68 _ (HL.out).a infoRead rfl (all5 rfl rfl rfl rfl rfl) ?_; intro W2 hR0 hW0 hz0; have hR := Lib.hid hR0; have hW := Lib.hid (hW0 _ _ (HL.out).below (Nat.le_refl _)); clear hR0 hW0 hz0))
  exact bodyPost_ret (results_cell_row rfl _ W2 w.heap.size 68 _ (0, 0) _ rfl hR.out Tryd.underlying68 rfl infoRead) rfl ⟨r5_some HF.out HZ.out, hW.out⟩

set_option maxHeartbeats 2000000 in
set_option maxRecDepth 100000 in
theorem read_3y (s : ByteArray) (h0 : 0 < s.size) (hc : s[0] = 3) (h8 : 9 ≤ s.size) (hsm : (fromF (numL ((s.toList.drop 1).take 8))).isSome = true) (w : World) :
    Calls Tryd.prog 36 #[.string s] w fun e w' => e = .returned (r5 s.size (firstL s.toList)) ∧ Below w.heap.size w w' := by
  have hne := not_empty h0
  have a0 : (0 : Int) < (s.size : Int) := by omega
  have hk : (s[0].toNat : Int) = 3 := by rw [hc]; rfl
  have hlt : ¬ (s.size : Int) < 9 := by omega
  have hl8 : ((s.toList.drop 1).take 8).length = 8 := by rw [List.length_take, List.length_drop, len_list]; omega
  have a1 : (9 : Int) ≤ (s.size : Int) := by omega
  have hn : numL (s.extract 1 9).toList = numL ((s.toList.drop 1).take 8) := num_slice s
  have HS := Lib.hid (size_slice s h8)
  have HZ := Lib.hid (show (9 : Int) = (s.size : Int) - (((s.toList.drop 1).drop 8).length : Int) by rw [List.length_drop, List.length_drop, len_list]; omega)
  have HF0 : firstL s.toList = (fromF (numL ((s.toList.drop 1).take 8))).map fun f => (⟨3, 0, f, []⟩, (s.toList.drop 1).drop 8) := by rw [first_at h0 hc, first_l3, if_neg (by rw [List.length_drop, len_list]; omega)]
  have HU := Lib.hid (KeyW.num_lt hl8)
  generalize numL ((s.toList.drop 1).take 8) = u at hn HF0 HU hsm
  have hg : goodV 3 0 (fromV u) [] = true := by unfold goodV fromV; cases e : fromF u with | none => rw [e] at hsm; cases hsm | some x => simp [(FloatW.from_some HU.out e).1]
  have HF := Lib.hid (show firstL s.toList = some (⟨3, 0, fromV u, []⟩, (s.toList.drop 1).drop 8) by rw [HF0]; unfold fromV; cases e : fromF u with | none => rw [e] at hsm; cases hsm | some x => rfl)
  clear hc hl8 HF0
  have HL := Lib.hid (LaidR.start w #[.int .i64 0, .int .i64 0, .float .f64 0, .string ⟨#[]⟩, .int .i64 0] #[.int .i64 3, .int .i64 0, .float .f64 0, .string ⟨#[]⟩])
  have b0 := HL.out.b.cell 0; have b1 := HL.out.b.cell 1; have b2 := HL.out.b.cell 2; have b3 := HL.out.b.cell 3
  go_enter Tryd.func36, Tryd.ntmps36
  go_wp2_with (first | (go_at_call 52; refine (number_any _ HS.out _).mono ?_; rintro e w1 ⟨rfl, hb⟩; replace HL := Lib.hid (HL.out.call hb); clear b0 b1 b2 b3; have b0 := HL.out.b.cell 0; have b1 := HL.out.b.cell 1; have b2 := HL.out.b.cell 2; have b3 := HL.out.b.cell 3; clear hb) | (go_at_call 53; refine (from_ref _ HU.out _).mono ?_; rintro e w1 ⟨rfl, hb⟩; replace HL := Lib.hid (HL.out.call hb); clear b0 b1 b2 b3; have b0 := HL.out.b.cell 0; have b1 := HL.out.b.cell 1; have b2 := HL.out.b.cell 2; have b3 := HL.out.b.cell 3; clear hb) | (refine wpList_field_any rfl 22 (.tmp 54) (.tmp 53) rfl (w.heap.size + 1) 2 (.float .f64 (fromV u)) rfl rfl rfl 24 _ #[.int .i64 3, .int .i64 0, .float .f64 (fromV u), .string ⟨#[]⟩] (HL.out.alloc _).b rfl rfl infoF64 ?_; intro w2 hR0 hW0 hz0; replace HL := Lib.hid ((HL.out.alloc _).field hR0 hW0 hz0); clear b0 b1 b2 b3; have b0 := HL.out.b.cell 0; have b1 := HL.out.b.cell 1; have b2 := HL.out.b.cell 2; have b3 := HL.out.b.cell 3; clear hR0 hW0 hz0) | (go_at_call 9; refine (good_ref _ _ _ _ _).mono ?_; rintro e w1 ⟨rfl, hb⟩; replace HL := Lib.hid (HL.out.call hb); clear b0 b1 b2 b3; have b0 := HL.out.b.cell 0; have b1 := HL.out.b.cell 1; have b2 := HL.out.b.cell 2; have b3 := HL.out.b.cell 3; clear hb) | (refine wpList_store_any rfl 68 (.tmp 2) (.tmp 77) rfl w.heap.size #[.int .i64 3, .int .i64 0, .float .f64 (fromV u), .string ⟨#[]⟩, .int .i64 9] rfl rfl 68 _ (HL.out).a infoRead rfl (all5 rfl rfl rfl rfl rfl) ?_; intro W2 hR0 hW0 hz0; have hR := Lib.hid hR0; have hW := Lib.hid (hW0 _ _ (HL.out).below (Nat.le_refl _)); clear hR0 hW0 hz0))
  exact bodyPost_ret (results_cell_row rfl _ W2 w.heap.size 68 _ (0, 0) _ rfl hR.out Tryd.underlying68 rfl infoRead) rfl ⟨r5_some HF.out HZ.out, hW.out⟩

set_option maxHeartbeats 2000000 in
set_option maxRecDepth 100000 in
theorem read_3f (s : ByteArray) (h0 : 0 < s.size) (hc : s[0] = 3) (h8 : 9 ≤ s.size) (hsm : (fromF (numL ((s.toList.drop 1).take 8))).isSome = false) (w : World) :
    Calls Tryd.prog 36 #[.string s] w fun e w' => e = .returned (r5 s.size (firstL s.toList)) ∧ Below w.heap.size w w' := by
  have hne := not_empty h0
  have a0 : (0 : Int) < (s.size : Int) := by omega
  have hk : (s[0].toNat : Int) = 3 := by rw [hc]; rfl
  have hlt : ¬ (s.size : Int) < 9 := by omega
  have hl8 : ((s.toList.drop 1).take 8).length = 8 := by rw [List.length_take, List.length_drop, len_list]; omega
  have a1 : (9 : Int) ≤ (s.size : Int) := by omega
  have hn : numL (s.extract 1 9).toList = numL ((s.toList.drop 1).take 8) := num_slice s
  have HS := Lib.hid (size_slice s h8)
  have HZ := Lib.hid (show (9 : Int) = (s.size : Int) - (((s.toList.drop 1).drop 8).length : Int) by rw [List.length_drop, List.length_drop, len_list]; omega)
  have HF0 : firstL s.toList = (fromF (numL ((s.toList.drop 1).take 8))).map fun f => (⟨3, 0, f, []⟩, (s.toList.drop 1).drop 8) := by rw [first_at h0 hc, first_l3, if_neg (by rw [List.length_drop, len_list]; omega)]
  have HU := Lib.hid (KeyW.num_lt hl8)
  generalize numL ((s.toList.drop 1).take 8) = u at hn HF0 HU hsm
  have HF := Lib.hid (show firstL s.toList = none by rw [HF0]; cases e : fromF u with | none => rfl | some x => rw [e] at hsm; cases hsm)
  clear hc hl8 HF0
  have HL := Lib.hid (LaidR.start w #[.int .i64 0, .int .i64 0, .float .f64 0, .string ⟨#[]⟩, .int .i64 0] #[.int .i64 3, .int .i64 0, .float .f64 0, .string ⟨#[]⟩])
  have b0 := HL.out.b.cell 0; have b1 := HL.out.b.cell 1; have b2 := HL.out.b.cell 2; have b3 := HL.out.b.cell 3
  go_enter Tryd.func36, Tryd.ntmps36
  go_wp2_with (first | (go_at_call 52; refine (number_any _ HS.out _).mono ?_; rintro e w1 ⟨rfl, hb⟩; replace HL := Lib.hid (HL.out.call hb); clear b0 b1 b2 b3; have b0 := HL.out.b.cell 0; have b1 := HL.out.b.cell 1; have b2 := HL.out.b.cell 2; have b3 := HL.out.b.cell 3; clear hb) | (go_at_call 53; refine (from_ref _ HU.out _).mono ?_; rintro e w1 ⟨rfl, hb⟩; replace HL := Lib.hid (HL.out.call hb); clear b0 b1 b2 b3; have b0 := HL.out.b.cell 0; have b1 := HL.out.b.cell 1; have b2 := HL.out.b.cell 2; have b3 := HL.out.b.cell 3; clear hb) | (refine wpList_store_any rfl 68 (.tmp 2) (.tmp 51) rfl w.heap.size #[.int .i64 0, .int .i64 0, .float .f64 0, .string ⟨#[]⟩, .int .i64 0] rfl rfl 68 _ (HL.out.alloc _).a infoRead rfl (all5 rfl rfl rfl rfl rfl) ?_; intro W2 hR0 hW0 hz0; have hR := Lib.hid hR0; have hW := Lib.hid (hW0 _ _ (HL.out.alloc _).below (Nat.le_refl _)); clear hR0 hW0 hz0))
  exact bodyPost_ret (results_cell_row rfl _ W2 w.heap.size 68 _ (0, 0) _ rfl hR.out Tryd.underlying68 rfl infoRead) rfl ⟨r5_none HF.out, hW.out⟩

set_option maxHeartbeats 2000000 in
set_option maxRecDepth 100000 in
theorem read_4n (s : ByteArray) (h0 : 0 < s.size) (hs : s.size ≤ 140737488351232) (hc : s[0] = 4) (ht : textL (s.toList.drop 1) = none) (w : World) :
    Calls Tryd.prog 36 #[.string s] w fun e w' => e = .returned (r5 s.size (firstL s.toList)) ∧ Below w.heap.size w w' := by
  have hne := not_empty h0
  have a0 : (0 : Int) < (s.size : Int) := by omega
  have hk : (s[0].toNat : Int) = 4 := by rw [hc]; rfl
  have a1 : (1 : Int) ≤ (s.size : Int) := by omega
  have hq : (s.extract 1 s.size).size = s.size - 1 := ext_size s
  have HQ := Lib.hid (show (s.extract 1 s.size).size ≤ 140737488351232 by omega)
  have HF0 : firstL s.toList = (textL (s.toList.drop 1)).bind fun x => if x.1.length ≤ 256 then some (⟨4, 0, 0, x.1⟩, x.2) else none := by rw [first_at h0 hc]; rfl
  have hel : textL (s.extract 1 s.size).toList = textL (s.toList.drop 1) := by rw [ext_list]
  have ht1 : textT (s.extract 1 s.size).toList = [] := by unfold textT; rw [hel, ht]
  have ht2 : textZ (s.extract 1 s.size).toList = 0 := by unfold textZ; rw [hel, ht]
  have HF := Lib.hid (show firstL s.toList = none by rw [HF0, ht]; rfl)
  clear hc ht HF0 hel
  have HL := Lib.hid (LaidR.start w #[.int .i64 0, .int .i64 0, .float .f64 0, .string ⟨#[]⟩, .int .i64 0] #[.int .i64 4, .int .i64 0, .float .f64 0, .string ⟨#[]⟩])
  have b0 := HL.out.b.cell 0; have b1 := HL.out.b.cell 1; have b2 := HL.out.b.cell 2; have b3 := HL.out.b.cell 3
  go_enter Tryd.func36, Tryd.ntmps36
  go_wp2_with (first | (go_at_call 54; refine (rtext_any _ HQ.out _).mono ?_; rintro e w1 ⟨rfl, hb⟩; replace HL := Lib.hid (HL.out.call hb); clear b0 b1 b2 b3; have b0 := HL.out.b.cell 0; have b1 := HL.out.b.cell 1; have b2 := HL.out.b.cell 2; have b3 := HL.out.b.cell 3; clear hb) | (refine wpList_store_any rfl 68 (.tmp 2) (.tmp 63) rfl w.heap.size #[.int .i64 0, .int .i64 0, .float .f64 0, .string ⟨#[]⟩, .int .i64 0] rfl rfl 68 _ (HL.out.alloc _).a infoRead rfl (all5 rfl rfl rfl rfl rfl) ?_; intro W2 hR0 hW0 hz0; have hR := Lib.hid hR0; have hW := Lib.hid (hW0 _ _ (HL.out.alloc _).below (Nat.le_refl _)); clear hR0 hW0 hz0))
  exact bodyPost_ret (results_cell_row rfl _ W2 w.heap.size 68 _ (0, 0) _ rfl hR.out Tryd.underlying68 rfl infoRead) rfl ⟨r5_none HF.out, hW.out⟩

set_option maxHeartbeats 2000000 in
set_option maxRecDepth 100000 in
theorem read_4y (s : ByteArray) (h0 : 0 < s.size) (hs : s.size ≤ 140737488351232) (hc : s[0] = 4) (t r : List UInt8) (ht : textL (s.toList.drop 1) = some (t, r)) (hl : t.length ≤ 256) (w : World) :
    Calls Tryd.prog 36 #[.string s] w fun e w' => e = .returned (r5 s.size (firstL s.toList)) ∧ Below w.heap.size w w' := by
  have hne := not_empty h0
  have a0 : (0 : Int) < (s.size : Int) := by omega
  have hk : (s[0].toNat : Int) = 4 := by rw [hc]; rfl
  have a1 : (1 : Int) ≤ (s.size : Int) := by omega
  have hq : (s.extract 1 s.size).size = s.size - 1 := ext_size s
  have HQ := Lib.hid (show (s.extract 1 s.size).size ≤ 140737488351232 by omega)
  have HF0 : firstL s.toList = (textL (s.toList.drop 1)).bind fun x => if x.1.length ≤ 256 then some (⟨4, 0, 0, x.1⟩, x.2) else none := by rw [first_at h0 hc]; rfl
  have hel : textL (s.extract 1 s.size).toList = textL (s.toList.drop 1) := by rw [ext_list]
  have ht1 : textT (s.extract 1 s.size).toList = t := by unfold textT; rw [hel, ht]
  have htz : textZ (s.extract 1 s.size).toList = ((s.toList.drop 1).length : Int) - r.length := by unfold textZ; rw [hel, ht, ext_list]
  have hlen := text_length ht
  rw [List.length_drop, len_list] at hlen htz
  have HZ0 : 1 + textZ (s.extract 1 s.size).toList = (s.size : Int) - (r.length : Int) := by omega
  have hz0 : 2 ≤ textZ (s.extract 1 s.size).toList := by omega
  have hz1 : textZ (s.extract 1 s.size).toList ≤ 140737488351232 := by omega
  generalize hzz : textZ (s.extract 1 s.size).toList = z at HZ0 hz0 hz1
  have HZ := Lib.hid HZ0
  have hzb : (z == 0) = false := beq_eq_false_iff_ne.2 (by omega)
  have hw1 : wrap64 (1 + z) = 1 + z := w64_in _ (by omega)
  have hw2 : IntKind.i64.wrap (1 + z) = 1 + z := IntWalk.i64_in _ (by omega)
  have HF := Lib.hid (show firstL s.toList = some (⟨4, 0, 0, t⟩, r) by rw [HF0, ht]; simp [hl])
  have hg : goodV 4 0 0 t = true := by simp [goodV, hl]
  clear hc ht HF0 hel htz hlen HZ0 hz0 hz1
  have HL := Lib.hid (LaidR.start w #[.int .i64 0, .int .i64 0, .float .f64 0, .string ⟨#[]⟩, .int .i64 0] #[.int .i64 4, .int .i64 0, .float .f64 0, .string ⟨#[]⟩])
  have b0 := HL.out.b.cell 0; have b1 := HL.out.b.cell 1; have b2 := HL.out.b.cell 2; have b3 := HL.out.b.cell 3
  go_enter Tryd.func36, Tryd.ntmps36
  go_wp2_with ((go_at_call 54; refine (rtext_any _ HQ.out _).mono ?_; rintro e w1 ⟨rfl, hb⟩; replace HL := Lib.hid (HL.out.call hb); clear b0 b1 b2 b3; have b0 := HL.out.b.cell 0; have b1 := HL.out.b.cell 1; have b2 := HL.out.b.cell 2; have b3 := HL.out.b.cell 3; clear hb))
  have HA := Lib.hid (HL.out.alloc (.cells #[.int .i64 0, .int .i64 0, .float .f64 0, .string ⟨t.toArray⟩, .int .i64 z] 68))
  have d3 := HA.out.b.cell 3
  have g3 := HA.out.b.free 3
  go_region
  replace HL := Lib.hid (show LaidR w _ #[.int .i64 0, .int .i64 0, .float .f64 0, .string ⟨#[]⟩, .int .i64 0] #[.int .i64 4, .int .i64 0, .float .f64 0, .string ⟨t.toArray⟩] from (HA.out.field (row5_cell HA.out.b 3 (.string ⟨t.toArray⟩)) (fun C x hb hC => below_cell hb hC 3 (.string ⟨t.toArray⟩)) (by simp [World.setCell])).drew)
  clear d3 g3
  clear b0 b1 b2 b3
  have b0 := HL.out.b.cell 0; have b1 := HL.out.b.cell 1; have b2 := HL.out.b.cell 2; have b3 := HL.out.b.cell 3
  go_wp2_with (first | (go_at_call 9; refine (good_ref _ _ _ _ _).mono ?_; rintro e w1 ⟨rfl, hb⟩; replace HL := Lib.hid (HL.out.call hb); clear b0 b1 b2 b3; have b0 := HL.out.b.cell 0; have b1 := HL.out.b.cell 1; have b2 := HL.out.b.cell 2; have b3 := HL.out.b.cell 3; clear hb) | (refine wpList_store_any rfl 68 (.tmp 2) (.tmp 77) rfl w.heap.size #[.int .i64 4, .int .i64 0, .float .f64 0, .string ⟨t.toArray⟩, .int .i64 (1 + z)] rfl rfl 68 _ (HL.out).a infoRead rfl (all5 rfl rfl rfl rfl rfl) ?_; intro W2 hR0 hW0 hz0; have hR := Lib.hid hR0; have hW := Lib.hid (hW0 _ _ (HL.out).below (Nat.le_refl _)); clear hR0 hW0 hz0))
  exact bodyPost_ret (results_cell_row rfl _ W2 w.heap.size 68 _ (0, 0) _ rfl hR.out Tryd.underlying68 rfl infoRead) rfl ⟨r5_some HF.out HZ.out, hW.out⟩

set_option maxHeartbeats 2000000 in
set_option maxRecDepth 100000 in
theorem read_4l (s : ByteArray) (h0 : 0 < s.size) (hs : s.size ≤ 140737488351232) (hc : s[0] = 4) (t r : List UInt8) (ht : textL (s.toList.drop 1) = some (t, r)) (hl : ¬ t.length ≤ 256) (w : World) :
    Calls Tryd.prog 36 #[.string s] w fun e w' => e = .returned (r5 s.size (firstL s.toList)) ∧ Below w.heap.size w w' := by
  have hne := not_empty h0
  have a0 : (0 : Int) < (s.size : Int) := by omega
  have hk : (s[0].toNat : Int) = 4 := by rw [hc]; rfl
  have a1 : (1 : Int) ≤ (s.size : Int) := by omega
  have hq : (s.extract 1 s.size).size = s.size - 1 := ext_size s
  have HQ := Lib.hid (show (s.extract 1 s.size).size ≤ 140737488351232 by omega)
  have HF0 : firstL s.toList = (textL (s.toList.drop 1)).bind fun x => if x.1.length ≤ 256 then some (⟨4, 0, 0, x.1⟩, x.2) else none := by rw [first_at h0 hc]; rfl
  have hel : textL (s.extract 1 s.size).toList = textL (s.toList.drop 1) := by rw [ext_list]
  have ht1 : textT (s.extract 1 s.size).toList = t := by unfold textT; rw [hel, ht]
  have htz : textZ (s.extract 1 s.size).toList = ((s.toList.drop 1).length : Int) - r.length := by unfold textZ; rw [hel, ht, ext_list]
  have hlen := text_length ht
  rw [List.length_drop, len_list] at hlen htz
  have HZ0 : 1 + textZ (s.extract 1 s.size).toList = (s.size : Int) - (r.length : Int) := by omega
  have hz0 : 2 ≤ textZ (s.extract 1 s.size).toList := by omega
  have hz1 : textZ (s.extract 1 s.size).toList ≤ 140737488351232 := by omega
  generalize hzz : textZ (s.extract 1 s.size).toList = z at HZ0 hz0 hz1
  have HZ := Lib.hid HZ0
  have hzb : (z == 0) = false := beq_eq_false_iff_ne.2 (by omega)
  have hw1 : wrap64 (1 + z) = 1 + z := w64_in _ (by omega)
  have hw2 : IntKind.i64.wrap (1 + z) = 1 + z := IntWalk.i64_in _ (by omega)
  have HF := Lib.hid (show firstL s.toList = none by rw [HF0, ht]; simp [hl])
  have hg : goodV 4 0 0 t = false := by simp [goodV]; omega
  clear hc ht HF0 hel htz hlen HZ0 hz0 hz1
  have HL := Lib.hid (LaidR.start w #[.int .i64 0, .int .i64 0, .float .f64 0, .string ⟨#[]⟩, .int .i64 0] #[.int .i64 4, .int .i64 0, .float .f64 0, .string ⟨#[]⟩])
  have b0 := HL.out.b.cell 0; have b1 := HL.out.b.cell 1; have b2 := HL.out.b.cell 2; have b3 := HL.out.b.cell 3
  go_enter Tryd.func36, Tryd.ntmps36
  go_wp2_with ((go_at_call 54; refine (rtext_any _ HQ.out _).mono ?_; rintro e w1 ⟨rfl, hb⟩; replace HL := Lib.hid (HL.out.call hb); clear b0 b1 b2 b3; have b0 := HL.out.b.cell 0; have b1 := HL.out.b.cell 1; have b2 := HL.out.b.cell 2; have b3 := HL.out.b.cell 3; clear hb))
  have HA := Lib.hid (HL.out.alloc (.cells #[.int .i64 0, .int .i64 0, .float .f64 0, .string ⟨t.toArray⟩, .int .i64 z] 68))
  have d3 := HA.out.b.cell 3
  have g3 := HA.out.b.free 3
  go_region
  replace HL := Lib.hid (show LaidR w _ #[.int .i64 0, .int .i64 0, .float .f64 0, .string ⟨#[]⟩, .int .i64 0] #[.int .i64 4, .int .i64 0, .float .f64 0, .string ⟨t.toArray⟩] from (HA.out.field (row5_cell HA.out.b 3 (.string ⟨t.toArray⟩)) (fun C x hb hC => below_cell hb hC 3 (.string ⟨t.toArray⟩)) (by simp [World.setCell])).drew)
  clear d3 g3
  clear b0 b1 b2 b3
  have b0 := HL.out.b.cell 0; have b1 := HL.out.b.cell 1; have b2 := HL.out.b.cell 2; have b3 := HL.out.b.cell 3
  go_wp2_with (first | (go_at_call 9; refine (good_ref _ _ _ _ _).mono ?_; rintro e w1 ⟨rfl, hb⟩; replace HL := Lib.hid (HL.out.call hb); clear b0 b1 b2 b3; have b0 := HL.out.b.cell 0; have b1 := HL.out.b.cell 1; have b2 := HL.out.b.cell 2; have b3 := HL.out.b.cell 3; clear hb) | (refine wpList_store_any rfl 68 (.tmp 2) (.tmp 74) rfl w.heap.size #[.int .i64 0, .int .i64 0, .float .f64 0, .string ⟨#[]⟩, .int .i64 0] rfl rfl 68 _ (HL.out).a infoRead rfl (all5 rfl rfl rfl rfl rfl) ?_; intro W2 hR0 hW0 hz0; have hR := Lib.hid hR0; have hW := Lib.hid (hW0 _ _ (HL.out).below (Nat.le_refl _)); clear hR0 hW0 hz0))
  exact bodyPost_ret (results_cell_row rfl _ W2 w.heap.size 68 _ (0, 0) _ rfl hR.out Tryd.underlying68 rfl infoRead) rfl ⟨r5_none HF.out, hW.out⟩

/-- What a key begins with, of any text: the document's reader. -/
theorem read_any (s : ByteArray) (hs : s.size ≤ 140737488351232) (w : World) :
    Calls Tryd.prog 36 #[.string s] w fun e w' => e = .returned (r5 s.size (firstL s.toList)) ∧ Below w.heap.size w w' := by
  by_cases h0 : 0 < s.size
  · by_cases k0 : s[0] = 0
    · exact read_0 s h0 k0 w
    by_cases k1 : s[0] = 1
    · by_cases h1 : 1 < s.size
      · by_cases hb : s[1] ≤ 1
        · exact read_1y s h0 k1 h1 hb w
        · exact read_1n s h0 k1 h1 hb w
      · exact read_1e s h0 k1 (by omega) w
    by_cases k2 : s[0] = 2
    · by_cases h8 : 9 ≤ s.size
      · exact read_2y s h0 k2 h8 w
      · exact read_2n s h0 k2 (by omega) w
    by_cases k3 : s[0] = 3
    · by_cases h8 : 9 ≤ s.size
      · cases hm : (fromF (numL ((s.toList.drop 1).take 8))).isSome
        · exact read_3f s h0 k3 h8 hm w
        · exact read_3y s h0 k3 h8 hm w
      · exact read_3n s h0 k3 (by omega) w
    by_cases k4 : s[0] = 4
    · cases ht : textL (s.toList.drop 1) with
      | none => exact read_4n s h0 hs k4 ht w
      | some x =>
        obtain ⟨t, r⟩ := x
        by_cases hl : t.length ≤ 256
        · exact read_4y s h0 hs k4 t r ht hl w
        · exact read_4l s h0 hs k4 t r ht hl w
    exact read_5 s h0 k0 k1 k2 k3 k4 w
  · have : s = ⟨#[]⟩ := ByteArray.ext (Array.eq_empty_of_size_eq_zero (by show s.size = 0; omega))
    subst this
    have h : firstL (⟨#[]⟩ : ByteArray).toList = none := by rw [show (⟨#[]⟩ : ByteArray).toList = [] from one_list []]; rfl
    rw [h]
    exact read_empty w

end Go.Proofs.YticjfnglciomhaaDoor
