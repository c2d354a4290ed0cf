/-
  The walk over the value with whose key a text begins (the program's).
-/
import Derived.Test.YtecmppmkidefmaaDoorT2
namespace Go.Proofs.YtecmppmkidefmaaDoor
open Go.RowKit

/-- The value that is read, or the nought value; the rest; is there one? -/
def vOf (o : Option (Val × List UInt8)) : Value := match o with | some x => V x.1.k x.1.n x.1.f ⟨x.1.l.toArray⟩ | none => V 0 0 0 ⟨#[]⟩
def rOf (o : Option (Val × List UInt8)) : ByteArray := match o with | some x => ⟨x.2.toArray⟩ | none => ⟨#[]⟩
def fOf (o : Option (Val × List UInt8)) : Value := .tuple #[vOf o, .string (rOf o), .bool o.isSome]

theorem first_empty (w : World) :
    Calls Tryd.prog 76 #[.string ⟨#[]⟩] w fun e w' => e = .returned (fOf none) ∧ Below w.heap.size w w' := by
  go_enter Tryd.func76, Tryd.ntmps76
  go_wp2
  exact bodyPost_ret (v := fOf none) (by simp [results, Tryd.results76, go_sem, fOf, vOf, rOf]) rfl ⟨rfl, (Below.refl _ _).alloc (Nat.le_refl _) _⟩

theorem not_empty {s : ByteArray} (h : 0 < s.size) : s.toList.isEmpty = false := by
  cases e : s.toList with
  | nil => rw [← len_list, e] at h; exact absurd h (by decide)
  | cons => rfl

theorem results_cell_two {P : Program} {fn : Func} {p u v : Tmp} {ty : TypeId} (h : fn.results = #[.cell p ty, .tmp u, .tmp v]) (tmps : Array Value) (w : World) (g : Nat) (t : TypeId) (cs : Array Value) (d : TypeDesc)
    (hp : tmps.getD p undef = .pointer (some ⟨g, 0, none⟩)) (hg : Row5 w g t cs)
    (hu : P.underlying ty = some d) (hd : (match d with | .struct _ | .array _ _ => true | _ => false) = true) (hi : (P.info? ty).map (·.size) = some cs.size) :
    (results fn tmps).run P w = .ok (.tuple #[.agg cs, tmps.getD u undef, tmps.getD v undef]) w := by
  have hp' : tmps[p]?.getD undef = .pointer (some ⟨g, 0, none⟩) := by simpa using hp
  simp [results, h, hp', asAddr, run_loadVar_row w g t ty cs (0, 0) d hg hu hd hi]

/-- The cells of the read value, behind a call. -/
theorem box4d {w w1 : World} {cs : Array Value} {T : TypeId} (hb : Below (w.alloc (.cells cs T)).drew.heap.size (w.alloc (.cells cs T)).drew w1) :
    Hid (Row5 w1 w.heap.size T cs) ∧ w.heap.size < w1.heap.size ∧ Hid (Below w.heap.size w w1) := by
  have hz : (w.alloc (.cells cs T)).drew.heap.size = w.heap.size + 1 := by show (w.heap.push _).size = _; rw [Array.size_push]
  have hs := hb.size
  refine ⟨Lib.hid ((Row5.new w T cs).below (B := w.heap.size + 1) ?_ (by omega)), by omega, Lib.hid (((Below.refl _ _).alloc (Nat.le_refl _) _).drew.trans (hb.mono (by omega)))⟩
  have h1 : Below (w.heap.size + 1) (w.alloc (.cells cs T)) (w.alloc (.cells cs T)).drew := (Below.refl _ _).drew
  exact h1.trans (hb.mono (by omega))
theorem box4dd {w w1 : World} {cs : Array Value} {T : TypeId} (hb : Below (w.alloc (.cells cs T)).drew.drew.heap.size (w.alloc (.cells cs T)).drew.drew w1) :
    Hid (Row5 w1 w.heap.size T cs) ∧ w.heap.size < w1.heap.size ∧ Hid (Below w.heap.size w w1) := by
  have hz : (w.alloc (.cells cs T)).drew.drew.heap.size = w.heap.size + 1 := by show (w.heap.push _).size = _; rw [Array.size_push]
  have hs := hb.size
  refine ⟨Lib.hid ((Row5.new w T cs).below (B := w.heap.size + 1) ?_ (by omega)), by omega, Lib.hid (((Below.refl _ _).alloc (Nat.le_refl _) _).drew.drew.trans (hb.mono (by omega)))⟩
  have h1 : Below (w.heap.size + 1) (w.alloc (.cells cs T)) (w.alloc (.cells cs T)).drew.drew := (Below.refl _ _).drew.drew
  exact h1.trans (hb.mono (by omega))
/-- The same, of a row that lay already. -/
theorem boxR {w w1 w2 : World} {g : Nat} {cs : Array Value} {T : TypeId} (h : Row5 w1 g T cs) (hB : Below g w w1) (hs : g < w1.heap.size) (hb : Below w1.heap.size w1 w2) :
    Hid (Row5 w2 g T cs) ∧ g < w2.heap.size ∧ Hid (Below g w w2) := by
  have := hb.size
  exact ⟨Lib.hid (h.below hb hs), by omega, Lib.hid (hB.trans (hb.mono (by omega)))⟩

theorem row5_cell {w : World} {g : Nat} {T : TypeId} {cs : Array Value} (h : Row5 w g T cs) (j : Nat) (v : Value) : Row5 (w.setCell ⟨g, j, none⟩ v) g T (cs.setIfInBounds j v) := by
  unfold Row5 at h ⊢
  have hlt : g < w.heap.size := (Array.getElem?_eq_some_iff.1 h).1
  have he : w.heap[g] = .cells cs T (0, 0) := (Array.getElem?_eq_some_iff.1 h).2
  show (w.heap.modify g _)[g]? = _
  rw [Array.getElem?_modify, if_pos rfl, h]; rfl
theorem below_cell {B g : Nat} {w0 w : World} (hb : Below B w0 w) (hBg : B ≤ g) (j : Nat) (v : Value) : Below B w0 (w.setCell ⟨g, j, none⟩ v) :=
  hb.trans ⟨rfl, rfl, rfl, by simp [World.setCell], fun k hk => by
    show (w.heap.modify g _)[k]? = _
    rw [Array.getElem?_modify, if_neg (by omega)]⟩
theorem run_storeVar_cell {P : Program} (w : World) (g j : Nat) (t ty : TypeId) (cs : Array Value) (v : Value) (hg : Row5 w g t cs) (hj : j < cs.size) (hi : (P.info? ty).map (·.size) = some 1)
    (h1 : v.oneCell' = true) : (storeVar ty ⟨g, j, none⟩ v).run P w = .ok () (w.setCell ⟨g, j, none⟩ v) := by
  have := run_storeCells_cells (P := P) g j [v] 0 w (fun i h => by
    have : i = 0 := by simpa using h
    subst this
    show (w.cell? ⟨g, j, none⟩).isSome = true
    rw [hg.cell j]; simp [hj]) (fun i h => hg.free _) (fun x hx => by simp at hx; subst hx; exact h1)
  have hc : v.cells = #[v] := by cases v <;> first | rfl | cases h1
  cases hq : P.info? ty with
  | none => simp [hq] at hi
  | some i =>
    have hs : i.size = 1 := by simpa [hq] using hi
    simp only [Nat.add_zero, World.setCells] at this
    simp [storeVar, sizeOf, typeInfo, hq, hc, hs, this]
/-- One field stored into a struct that the call has laid. -/
theorem wpList_field_any {P : Program} {w : World} {ops : Array Oper} {rest : List Oper} {o : Oper} {a : Act} {Q : Exit → Act → World → Prop} (hgd : o.guard = none) (ty : TypeId) (x y : Operand) (ho : o.op = .store ty x y)
    (g j : Nat) (v : Value) (hx : a.eval x = .pointer (some ⟨g, j, none⟩)) (hy : a.eval y = v) (h1 : v.oneCell' = true) (t : TypeId) (cs cs' : Array Value) (hg : Row5 w g t cs) (hj : decide (j < cs.size) = true) (hcs : cs.setIfInBounds j v = cs')
    (hi : (P.info? ty).map (·.size) = some 1)
    (h : ∀ W2, Row5 W2 g t cs' → (∀ B w0, Below B w0 w → B ≤ g → Below B w0 W2) → w.heap.size ≤ W2.heap.size → wpList P ops Q rest (a.put o.dst undef) W2) : wpList P ops Q (o :: rest) a w :=
  wpList_plain hgd fun _ hK => by
    subst hcs
    unfold Oper.wp execOp
    simp only [ho, hx, hy, Instr.storeAt, Instr.sureAddr, Sem.run_bind, Sem.run_pure, Result.andThen_ok, run_storeVar_cell w g j t ty cs v hg (of_decide_eq_true hj) hi h1]
    exact hK _ _ (h _ (row5_cell hg j v) (fun _ _ hb hB => below_cell hb hB j v) (by simp [World.setCell]))

theorem info24 : (Tryd.prog.info? 33).map (·.size) = some 4 := by kernel_rfl
theorem infoI64 : (Tryd.prog.info? 2).map (·.size) = some 1 := by kernel_rfl
theorem infoF64 : (Tryd.prog.info? 31).map (·.size) = some 1 := by kernel_rfl
theorem infoStr : (Tryd.prog.info? 9).map (·.size) = some 1 := by kernel_rfl
theorem all4 {a b c d : Value} (h1 : a.oneCell' = true) (h2 : b.oneCell' = true) (h3 : c.oneCell' = true) (h4 : d.oneCell' = true) : (#[a, b, c, d] : Array Value).all (·.oneCell') = true := by simp [*]
theorem first_out {o : Option (Val × List UInt8)} {k n : Int} {f : Nat} {l : ByteArray} {r : ByteArray} {v : Val} {rest : List UInt8} (h : o = some (v, rest)) (h1 : k = v.k) (h2 : n = v.n) (h3 : f = v.f) (h4 : l.toList = v.l) (h5 : r.toList = rest) :
    Ending.returned (.tuple #[.agg #[.int .i64 k, .int .i64 n, .float .f64 f, .string l], .string r, .bool true]) = .returned (fOf o) := by
  obtain ⟨k', n', f', l'⟩ := v
  simp only at h1 h2 h3 h4
  subst h h1 h2 h3 h4 h5
  show _ = Ending.returned (.tuple #[V _ _ _ ⟨l.toList.toArray⟩, .string ⟨r.toList.toArray⟩, .bool true])
  rw [← str_of_list (r := l) rfl, ← str_of_list (r := r) rfl]
theorem first_none {o : Option (Val × List UInt8)} (h : o = none) : Ending.returned (.tuple #[.agg #[.int .i64 0, .int .i64 0, .float .f64 0, .string ⟨#[]⟩], .string ⟨#[]⟩, .bool false]) = .returned (fOf o) := by subst h; rfl
theorem unflip (u : Nat) (h : u < 18446744073709551616) : ∃ q : Int, bits .xor .u64 u 9223372036854775808 = q ∧ IntKind.i64.wrap q = (u : Int) - 9223372036854775808 := by
  refine ⟨_, rfl, ?_⟩
  rw [bits_xor_sign u h]
  split
  · rw [IntWalk.i64_in _ (by omega)]; omega
  · simp [IntKind.wrap, IntKind.bits, IntKind.signed]; omega
/-- The first byte, and what is behind it. -/
theorem ext_get0 (s : ByteArray) (h : 1 < s.size) : (s.extract 1 s.size)[0]'(by rw [ByteArray.size_extract]; simp; omega) = s[1] := by
  rw [ByteArray.getElem_extract]
theorem ext_ext (s : ByteArray) : (s.extract 1 s.size).extract 1 (s.extract 1 s.size).size = s.extract 2 s.size := by
  have h : ∀ a b : ByteArray, a.toList = b.toList → a = b := fun a b h => (str_of_list h).trans (str_of_list rfl).symm
  exact h _ _ (by rw [slice_drop, slice_drop, slice_drop, List.drop_drop])
theorem first_l2 (l : List UInt8) : firstL (2 :: l) = if l.length < 8 then none else some (⟨2, (numL (l.take 8) : Int) - 9223372036854775808, 0, []⟩, l.drop 8) := by simp [firstL]
theorem first_l3 (l : List UInt8) : firstL (3 :: l) = if l.length < 8 then none else (fromF (numL (l.take 8))).map fun f => (⟨3, 0, f, []⟩, l.drop 8) := by simp [firstL]
theorem first_list {s : ByteArray} (h0 : 0 < s.size) : s.toList = s[0] :: s.toList.drop 1 := by
  have := drop_at s 0 h0
  rwa [List.drop_zero] at this
theorem first_at {s : ByteArray} (h0 : 0 < s.size) {c : UInt8} (hc : s[0] = c) : firstL s.toList = firstL (c :: s.toList.drop 1) := by
  rw [← hc, ← first_list h0]
theorem ext_list (s : ByteArray) (i : Nat) : (s.extract i s.size).toList = s.toList.drop i := slice_drop s i
theorem ext_size (s : ByteArray) : (s.extract 1 s.size).size = s.size - 1 := by rw [ByteArray.size_extract]; simp

set_option maxHeartbeats 2000000 in
set_option maxRecDepth 100000 in
theorem first_0 (s : ByteArray) (h0 : 0 < s.size) (hc : s[0] = 0) (w : World) :
    Calls Tryd.prog 76 #[.string s] w fun e w' => e = .returned (fOf (firstL s.toList)) ∧ Below w.heap.size w w' := by
  have hne := not_empty h0
  have a0 : (0 : Int) < (s.size : Int) := by omega
  have a1 : (1 : Int) ≤ (s.size : Int) := by omega
  have hk : (s[0].toNat : Int) = 0 := by rw [hc]; rfl
  have hg : goodV 0 0 0 [] = true := by decide
  have HF := Lib.hid (show firstL s.toList = some (⟨0, 0, 0, []⟩, s.toList.drop 1) by rw [first_list h0, hc]; rfl)
  clear hc
  go_enter Tryd.func76, Tryd.ntmps76
  go_wp2
  go_region
  go_wp2_with (first | (go_at_call 48; refine (good_any _ _ _ _ _).mono ?_; rintro e w1 ⟨rfl, hb⟩; obtain ⟨HR1, hs11, HB1⟩ := box4d hb; have c0 := HR1.out.cell 0; have c1 := HR1.out.cell 1; have c2 := HR1.out.cell 2; have c3 := HR1.out.cell 3; clear hb) | (refine wpList_store_any rfl 33 (.tmp 2) (.tmp 80) rfl w.heap.size #[.int .i64 0, .int .i64 0, .float .f64 0, .string ⟨#[]⟩] rfl rfl 33 _ HR1.out info24 rfl (all4 rfl rfl rfl rfl) ?_; intro W2 hR0 hW0 hz0; have hR := Lib.hid hR0; have hW := Lib.hid (hW0 _ _ HB1.out (Nat.le_refl _)); clear hR0 hW0 hz0))
  exact bodyPost_ret (results_cell_two (p := 2) (u := 3) (v := 4) rfl _ W2 w.heap.size 33 _ _ rfl hR.out Tryd.underlying33 rfl info24) rfl ⟨first_out HF.out rfl rfl rfl (one_list []) (ext_list _ _), hW.out⟩

set_option maxHeartbeats 2000000 in
set_option maxRecDepth 100000 in
theorem first_5 (s : ByteArray) (h0 : 0 < s.size) (h0k : s[0] ≠ 0) (h1k : s[0] ≠ 1) (h2k : s[0] ≠ 2) (h3k : s[0] ≠ 3) (h4k : s[0] ≠ 4) (w : World) :
    Calls Tryd.prog 76 #[.string s] w fun e w' => e = .returned (fOf (firstL s.toList)) ∧ Below w.heap.size w w' := by
  have hne := not_empty h0
  have a0 : (0 : Int) < (s.size : Int) := by omega
  have a1 : (1 : Int) ≤ (s.size : Int) := by omega
  have b0 : ((s[0].toNat : Int) == 0) = false := byte_ne h0k
  have b1 : ((s[0].toNat : Int) == 1) = false := byte_ne h1k
  have b2 : ((s[0].toNat : Int) == 2) = false := byte_ne h2k
  have b3 : ((s[0].toNat : Int) == 3) = false := byte_ne h3k
  have b4 : ((s[0].toNat : Int) == 4) = false := byte_ne h4k
  have hg : goodV (s[0].toNat : Int) 0 0 [] = false := by unfold goodV; rw [if_neg (ne_of_beq_false b0), if_neg (ne_of_beq_false b1), if_neg (ne_of_beq_false b2), if_neg (ne_of_beq_false b3), if_neg (ne_of_beq_false b4)]
  have HF := Lib.hid (show firstL s.toList = none by rw [first_list h0]; simp only [firstL, if_neg h0k, if_neg h1k, if_neg h2k, if_neg h3k, if_neg h4k])
  clear h0k h1k h2k h3k h4k
  have hk0 : (0 : Int) ≤ (s[0].toNat : Int) := by omega
  have hk1 : (s[0].toNat : Int) < 256 := by have := s[0].toNat_lt; omega
  obtain ⟨kk, hkk⟩ : ∃ kk : Int, (s[0].toNat : Int) = kk := ⟨_, rfl⟩
  rw [hkk] at b0 b1 b2 b3 b4 hg hk0 hk1
  have hw : wrap64 kk = kk := by unfold wrap64; omega
  go_enter Tryd.func76, Tryd.ntmps76
  go_wp2
  go_region
  go_wp2_with (first | (go_at_call 48; refine (good_any _ _ _ _ _).mono ?_; rintro e w1 ⟨rfl, hb⟩; obtain ⟨HR1, hs11, HB1⟩ := box4d hb; have c0 := HR1.out.cell 0; have c1 := HR1.out.cell 1; have c2 := HR1.out.cell 2; have c3 := HR1.out.cell 3; clear hb) | (refine wpList_store_any rfl 33 (.tmp 2) (.tmp 79) rfl w.heap.size #[.int .i64 0, .int .i64 0, .float .f64 0, .string ⟨#[]⟩] rfl rfl 33 _ HR1.out info24 rfl (all4 rfl rfl rfl rfl) ?_; intro W2 hR0 hW0 hz0; have hR := Lib.hid hR0; have hW := Lib.hid (hW0 _ _ HB1.out (Nat.le_refl _)); clear hR0 hW0 hz0))
  exact bodyPost_ret (results_cell_two (p := 2) (u := 3) (v := 4) rfl _ W2 w.heap.size 33 _ _ rfl hR.out Tryd.underlying33 rfl info24) rfl ⟨first_none HF.out, hW.out⟩

set_option maxHeartbeats 2000000 in
set_option maxRecDepth 100000 in
theorem first_1e (s : ByteArray) (h0 : 0 < s.size) (hc : s[0] = 1) (h1 : s.size = 1) (w : World) :
    Calls Tryd.prog 76 #[.string s] w fun e w' => e = .returned (fOf (firstL s.toList)) ∧ Below w.heap.size w w' := by
  have hne := not_empty h0
  have a0 : (0 : Int) < (s.size : Int) := by omega
  have a1 : (1 : Int) ≤ (s.size : Int) := by omega
  have hk : (s[0].toNat : Int) = 1 := by rw [hc]; rfl
  have he : (s.extract 1 s.size).toList.isEmpty = true := by rw [ext_list, List.drop_of_length_le (by rw [len_list]; omega)]; rfl
  have HF := Lib.hid (show firstL s.toList = none by rw [first_list h0, hc, List.drop_of_length_le (by rw [len_list]; omega)]; rfl)
  clear hc
  go_enter Tryd.func76, Tryd.ntmps76
  go_wp2
  go_region
  go_wp2
  exact bodyPost_ret (v := fOf none) (by simp [results, Tryd.results76, go_sem, fOf, vOf, rOf]) rfl ⟨by rw [HF.out], ((Below.refl _ _).alloc (Nat.le_refl _) _).drew⟩

set_option maxHeartbeats 2000000 in
set_option maxRecDepth 100000 in
theorem first_1y (s : ByteArray) (h0 : 0 < s.size) (hc : s[0] = 1) (h1 : 1 < s.size) (hb : s[1] ≤ 1) (w : World) :
    Calls Tryd.prog 76 #[.string s] w fun e w' => e = .returned (fOf (firstL s.toList)) ∧ Below w.heap.size w w' := by
  have hne := not_empty h0
  have a0 : (0 : Int) < (s.size : Int) := by omega
  have a1 : (1 : Int) ≤ (s.size : Int) := by omega
  have hk : (s[0].toNat : Int) = 1 := by rw [hc]; rfl
  have he : (s.extract 1 s.size).toList.isEmpty = false := not_empty (by rw [ext_size]; omega)
  have hq : (s.extract 1 s.size).size = s.size - 1 := ext_size s
  have a2 : (0 : Int) < ((s.extract 1 s.size).size : Int) := by omega
  have a3 : (1 : Int) ≤ ((s.extract 1 s.size).size : Int) := by omega
  have a4 : ((s.extract 1 s.size)[0].toNat : Int) = (s[1].toNat : Int) := by rw [ext_get0 s h1]
  have a5 : (s.extract 1 s.size).extract 1 (s.size - 1) = s.extract 2 s.size := by rw [← hq]; exact ext_ext s
  have hg : goodV 1 (s[1].toNat : Int) 0 [] = true := by have h1 : (1 : UInt8).toNat = 1 := rfl; rw [UInt8.le_iff_toNat_le, h1] at hb; unfold goodV; simp; omega
  have HF := Lib.hid (show firstL s.toList = some (⟨1, (s[1].toNat : Int), 0, []⟩, s.toList.drop 2) by rw [first_at h0 hc, drop_at s 1 h1]; simp [firstL, hb])
  clear hc hb
  have hk0 : (0 : Int) ≤ (s[1].toNat : Int) := by omega
  have hk1 : (s[1].toNat : Int) < 256 := by have := s[1].toNat_lt; omega
  obtain ⟨kk, hkk⟩ : ∃ kk : Int, (s[1].toNat : Int) = kk := ⟨_, rfl⟩
  rw [hkk] at a4 hg hk0 hk1 HF
  have hw : wrap64 kk = kk := by unfold wrap64; omega
  go_enter Tryd.func76, Tryd.ntmps76
  go_wp2
  go_region
  go_wp2_with fail
  go_region
  go_wp2_with (first | (go_at_call 48; refine (good_any _ _ _ _ _).mono ?_; rintro e w1 ⟨rfl, hb⟩; obtain ⟨HR1, hs11, HB1⟩ := box4dd hb; have c0 := HR1.out.cell 0; have c1 := HR1.out.cell 1; have c2 := HR1.out.cell 2; have c3 := HR1.out.cell 3; clear hb) | (refine wpList_store_any rfl 33 (.tmp 2) (.tmp 80) rfl w.heap.size #[.int .i64 1, .int .i64 kk, .float .f64 0, .string ⟨#[]⟩] rfl rfl 33 _ HR1.out info24 rfl (all4 rfl rfl rfl rfl) ?_; intro W2 hR0 hW0 hz0; have hR := Lib.hid hR0; have hW := Lib.hid (hW0 _ _ HB1.out (Nat.le_refl _)); clear hR0 hW0 hz0))
  exact bodyPost_ret (results_cell_two (p := 2) (u := 3) (v := 4) rfl _ W2 w.heap.size 33 _ _ rfl hR.out Tryd.underlying33 rfl info24) rfl ⟨first_out HF.out rfl rfl rfl (one_list []) (ext_list _ _), hW.out⟩

set_option maxHeartbeats 2000000 in
set_option maxRecDepth 100000 in
theorem first_1n (s : ByteArray) (h0 : 0 < s.size) (hc : s[0] = 1) (h1 : 1 < s.size) (hb : ¬ s[1] ≤ 1) (w : World) :
    Calls Tryd.prog 76 #[.string s] w fun e w' => e = .returned (fOf (firstL s.toList)) ∧ Below w.heap.size w w' := by
  have hne := not_empty h0
  have a0 : (0 : Int) < (s.size : Int) := by omega
  have a1 : (1 : Int) ≤ (s.size : Int) := by omega
  have hk : (s[0].toNat : Int) = 1 := by rw [hc]; rfl
  have he : (s.extract 1 s.size).toList.isEmpty = false := not_empty (by rw [ext_size]; omega)
  have hq : (s.extract 1 s.size).size = s.size - 1 := ext_size s
  have a2 : (0 : Int) < ((s.extract 1 s.size).size : Int) := by omega
  have a3 : (1 : Int) ≤ ((s.extract 1 s.size).size : Int) := by omega
  have a4 : ((s.extract 1 s.size)[0].toNat : Int) = (s[1].toNat : Int) := by rw [ext_get0 s h1]
  have a5 : (s.extract 1 s.size).extract 1 (s.size - 1) = s.extract 2 s.size := by rw [← hq]; exact ext_ext s
  have hg : goodV 1 (s[1].toNat : Int) 0 [] = false := by have h1 : (1 : UInt8).toNat = 1 := rfl; rw [UInt8.le_iff_toNat_le, h1] at hb; unfold goodV; simp; omega
  have HF := Lib.hid (show firstL s.toList = none by rw [first_at h0 hc, drop_at s 1 h1]; simp [firstL, hb])
  clear hc hb
  have hk0 : (0 : Int) ≤ (s[1].toNat : Int) := by omega
  have hk1 : (s[1].toNat : Int) < 256 := by have := s[1].toNat_lt; omega
  obtain ⟨kk, hkk⟩ : ∃ kk : Int, (s[1].toNat : Int) = kk := ⟨_, rfl⟩
  rw [hkk] at a4 hg hk0 hk1
  have hw : wrap64 kk = kk := by unfold wrap64; omega
  go_enter Tryd.func76, Tryd.ntmps76
  go_wp2
  go_region
  go_wp2_with fail
  go_region
  go_wp2_with (first | (go_at_call 48; refine (good_any _ _ _ _ _).mono ?_; rintro e w1 ⟨rfl, hb⟩; obtain ⟨HR1, hs11, HB1⟩ := box4dd hb; have c0 := HR1.out.cell 0; have c1 := HR1.out.cell 1; have c2 := HR1.out.cell 2; have c3 := HR1.out.cell 3; clear hb) | (refine wpList_store_any rfl 33 (.tmp 2) (.tmp 79) rfl w.heap.size #[.int .i64 0, .int .i64 0, .float .f64 0, .string ⟨#[]⟩] rfl rfl 33 _ HR1.out info24 rfl (all4 rfl rfl rfl rfl) ?_; intro W2 hR0 hW0 hz0; have hR := Lib.hid hR0; have hW := Lib.hid (hW0 _ _ HB1.out (Nat.le_refl _)); clear hR0 hW0 hz0))
  exact bodyPost_ret (results_cell_two (p := 2) (u := 3) (v := 4) rfl _ W2 w.heap.size 33 _ _ rfl hR.out Tryd.underlying33 rfl info24) rfl ⟨first_none HF.out, hW.out⟩

set_option maxHeartbeats 2000000 in
set_option maxRecDepth 100000 in
theorem first_2n (s : ByteArray) (h0 : 0 < s.size) (hc : s[0] = 2) (h8 : s.size < 9) (w : World) :
    Calls Tryd.prog 76 #[.string s] w fun e w' => e = .returned (fOf (firstL s.toList)) ∧ Below w.heap.size w w' := by
  have hne := not_empty h0
  have a0 : (0 : Int) < (s.size : Int) := by omega
  have a1 : (1 : Int) ≤ (s.size : Int) := by omega
  have hk : (s[0].toNat : Int) = 2 := by rw [hc]; rfl
  have hq : (s.extract 1 s.size).size = s.size - 1 := ext_size s
  have hu : IntKind.i64.wrap (bits .xor .u64 0 9223372036854775808) = -9223372036854775808 := by decide
  have HF := Lib.hid (show firstL s.toList = none by rw [first_at h0 hc, first_l2, if_pos (by rw [List.length_drop, len_list]; omega)])
  clear hc
  go_enter Tryd.func76, Tryd.ntmps76
  go_wp2
  go_region
  go_wp2_with (first | (go_at_call 86; refine (wide_no _ (by rw [ext_size]; omega) _).mono ?_; rintro e w1 ⟨rfl, hb⟩; obtain ⟨HR1, hs11, HB1⟩ := box4d hb; have c0 := HR1.out.cell 0; have c1 := HR1.out.cell 1; have c2 := HR1.out.cell 2; have c3 := HR1.out.cell 3; clear hb) | (refine wpList_field_any rfl 2 (.tmp 43) (.tmp 42) rfl w.heap.size 1 (.int .i64 (-9223372036854775808)) rfl rfl rfl 33 _ #[.int .i64 2, .int .i64 (-9223372036854775808), .float .f64 0, .string ⟨#[]⟩] HR1.out rfl rfl infoI64 ?_; intro w2 hR0 hW0 hz0; have HR2 := Lib.hid hR0; have HB2 := Lib.hid (hW0 _ _ HB1.out (Nat.le_refl _)); have hs12 : w.heap.size < w2.heap.size := (by omega); have c0 := HR2.out.cell 0; have c1 := HR2.out.cell 1; have c2 := HR2.out.cell 2; have c3 := HR2.out.cell 3; clear hR0 hW0 hz0) | (refine wpList_store_any rfl 33 (.tmp 2) (.tmp 79) rfl w.heap.size #[.int .i64 0, .int .i64 0, .float .f64 0, .string ⟨#[]⟩] rfl rfl 33 _ HR2.out info24 rfl (all4 rfl rfl rfl rfl) ?_; intro W2 hR0 hW0 hz0; have hR := Lib.hid hR0; have hW := Lib.hid (hW0 _ _ HB2.out (Nat.le_refl _)); clear hR0 hW0 hz0))
  exact bodyPost_ret (results_cell_two (p := 2) (u := 3) (v := 4) rfl _ W2 w.heap.size 33 _ _ rfl hR.out Tryd.underlying33 rfl info24) rfl ⟨first_none HF.out, hW.out⟩

set_option maxHeartbeats 2000000 in
set_option maxRecDepth 100000 in
theorem first_2y (s : ByteArray) (h0 : 0 < s.size) (hs : s.size ≤ 140737488351232) (hc : s[0] = 2) (h8 : 9 ≤ s.size) (w : World) :
    Calls Tryd.prog 76 #[.string s] w fun e w' => e = .returned (fOf (firstL s.toList)) ∧ Below w.heap.size w w' := by
  have hne := not_empty h0
  have a0 : (0 : Int) < (s.size : Int) := by omega
  have a1 : (1 : Int) ≤ (s.size : Int) := by omega
  have hk : (s[0].toNat : Int) = 2 := by rw [hc]; rfl
  have hq : (s.extract 1 s.size).size = s.size - 1 := ext_size s
  have hl8 : ((s.toList.drop 1).take 8).length = 8 := by rw [List.length_take, List.length_drop, len_list]; omega
  have hn : numL ((s.extract 1 s.size).toList.take 8) = numL ((s.toList.drop 1).take 8) := by rw [ext_list]
  have HF := Lib.hid (show firstL s.toList = some (⟨2, (numL ((s.toList.drop 1).take 8) : Int) - 9223372036854775808, 0, []⟩, (s.toList.drop 1).drop 8) by rw [first_at h0 hc, first_l2, if_neg (by rw [List.length_drop, len_list]; omega)])
  have hx : ((s.extract 1 s.size).extract 8 (s.size - 1)).toList = (s.toList.drop 1).drop 8 := by rw [← hq, ext_list, ext_list]
  have HX := Lib.hid hx
  clear hx
  obtain ⟨q, hf1, hf2⟩ := unflip _ (KeyW.num_lt hl8)
  generalize numL ((s.toList.drop 1).take 8) = u at hn HF hf1 hf2
  have hg : goodV 2 ((u : Int) - 9223372036854775808) 0 [] = true := rfl
  generalize hn0 : ((u : Int) - 9223372036854775808) = nn at hf2 HF hg
  clear hc hl8 hn0
  go_enter Tryd.func76, Tryd.ntmps76
  go_wp2
  go_region
  go_wp2_with (first | (go_at_call 86; refine (wide_yes _ (by rw [ext_size]; omega) (by rw [ext_size]; omega) _).mono ?_; rintro e w1 ⟨rfl, hb⟩; obtain ⟨HR1, hs11, HB1⟩ := box4d hb; have c0 := HR1.out.cell 0; have c1 := HR1.out.cell 1; have c2 := HR1.out.cell 2; have c3 := HR1.out.cell 3; clear hb) | (refine wpList_field_any rfl 2 (.tmp 43) (.tmp 42) rfl w.heap.size 1 (.int .i64 nn) rfl rfl rfl 33 _ #[.int .i64 2, .int .i64 nn, .float .f64 0, .string ⟨#[]⟩] HR1.out rfl rfl infoI64 ?_; intro w2 hR0 hW0 hz0; have HR2 := Lib.hid hR0; have HB2 := Lib.hid (hW0 _ _ HB1.out (Nat.le_refl _)); have hs12 : w.heap.size < w2.heap.size := (by omega); have c0 := HR2.out.cell 0; have c1 := HR2.out.cell 1; have c2 := HR2.out.cell 2; have c3 := HR2.out.cell 3; clear hR0 hW0 hz0) | (go_at_call 48; refine (good_any _ _ _ _ _).mono ?_; rintro e w3 ⟨rfl, hb⟩; obtain ⟨HR3, hs13, HB3⟩ := boxR HR2.out HB2.out hs12 hb; have c0 := HR3.out.cell 0; have c1 := HR3.out.cell 1; have c2 := HR3.out.cell 2; have c3 := HR3.out.cell 3; clear hb) | (refine wpList_store_any rfl 33 (.tmp 2) (.tmp 80) rfl w.heap.size #[.int .i64 2, .int .i64 nn, .float .f64 0, .string ⟨#[]⟩] rfl rfl 33 _ HR3.out info24 rfl (all4 rfl rfl rfl rfl) ?_; intro W2 hR0 hW0 hz0; have hR := Lib.hid hR0; have hW := Lib.hid (hW0 _ _ HB3.out (Nat.le_refl _)); clear hR0 hW0 hz0))
  exact bodyPost_ret (results_cell_two (p := 2) (u := 3) (v := 4) rfl _ W2 w.heap.size 33 _ _ rfl hR.out Tryd.underlying33 rfl info24) rfl ⟨first_out HF.out rfl rfl rfl (one_list []) (HX.out), hW.out⟩

set_option maxHeartbeats 2000000 in
set_option maxRecDepth 100000 in
theorem first_3n (s : ByteArray) (h0 : 0 < s.size) (hc : s[0] = 3) (h8 : s.size < 9) (w : World) :
    Calls Tryd.prog 76 #[.string s] w fun e w' => e = .returned (fOf (firstL s.toList)) ∧ Below w.heap.size w w' := by
  have hne := not_empty h0
  have a0 : (0 : Int) < (s.size : Int) := by omega
  have a1 : (1 : Int) ≤ (s.size : Int) := by omega
  have hk : (s[0].toNat : Int) = 3 := by rw [hc]; rfl
  have hq : (s.extract 1 s.size).size = s.size - 1 := ext_size s
  have HU := Lib.hid (show (0 : Nat) < 18446744073709551616 by decide)
  have HF := Lib.hid (show firstL s.toList = none by rw [first_at h0 hc, first_l3, if_pos (by rw [List.length_drop, len_list]; omega)])
  clear hc
  go_enter Tryd.func76, Tryd.ntmps76
  go_wp2
  go_region
  go_wp2_with (first | (go_at_call 86; refine (wide_no _ (by rw [ext_size]; omega) _).mono ?_; rintro e w1 ⟨rfl, hb⟩; obtain ⟨HR1, hs11, HB1⟩ := box4d hb; have c0 := HR1.out.cell 0; have c1 := HR1.out.cell 1; have c2 := HR1.out.cell 2; have c3 := HR1.out.cell 3; clear hb) | (go_at_call 87; refine (from_any _ HU.out _).mono ?_; rintro e w' ⟨rfl, rfl⟩) | (refine wpList_field_any rfl 31 (.tmp 62) (.tmp 57) rfl w.heap.size 2 (.float .f64 (fromV 0)) rfl rfl rfl 33 _ #[.int .i64 3, .int .i64 0, .float .f64 (fromV 0), .string ⟨#[]⟩] HR1.out rfl rfl infoF64 ?_; intro w2 hR0 hW0 hz0; have HR2 := Lib.hid hR0; have HB2 := Lib.hid (hW0 _ _ HB1.out (Nat.le_refl _)); have hs12 : w.heap.size < w2.heap.size := (by omega); have c0 := HR2.out.cell 0; have c1 := HR2.out.cell 1; have c2 := HR2.out.cell 2; have c3 := HR2.out.cell 3; clear hR0 hW0 hz0) | (refine wpList_store_any rfl 33 (.tmp 2) (.tmp 79) rfl w.heap.size #[.int .i64 0, .int .i64 0, .float .f64 0, .string ⟨#[]⟩] rfl rfl 33 _ HR2.out info24 rfl (all4 rfl rfl rfl rfl) ?_; intro W2 hR0 hW0 hz0; have hR := Lib.hid hR0; have hW := Lib.hid (hW0 _ _ HB2.out (Nat.le_refl _)); clear hR0 hW0 hz0))
  exact bodyPost_ret (results_cell_two (p := 2) (u := 3) (v := 4) rfl _ W2 w.heap.size 33 _ _ rfl hR.out Tryd.underlying33 rfl info24) rfl ⟨first_none HF.out, hW.out⟩

set_option maxHeartbeats 2000000 in
set_option maxRecDepth 100000 in
theorem first_3y (s : ByteArray) (h0 : 0 < s.size) (hs : s.size ≤ 140737488351232) (hc : s[0] = 3) (h8 : 9 ≤ s.size) (hsm : (fromF (numL ((s.toList.drop 1).take 8))).isSome = true) (w : World) :
    Calls Tryd.prog 76 #[.string s] w fun e w' => e = .returned (fOf (firstL s.toList)) ∧ Below w.heap.size w w' := by
  have hne := not_empty h0
  have a0 : (0 : Int) < (s.size : Int) := by omega
  have a1 : (1 : Int) ≤ (s.size : Int) := by omega
  have hk : (s[0].toNat : Int) = 3 := by rw [hc]; rfl
  have hq : (s.extract 1 s.size).size = s.size - 1 := ext_size s
  have hl8 : ((s.toList.drop 1).take 8).length = 8 := by rw [List.length_take, List.length_drop, len_list]; omega
  have hn : numL ((s.extract 1 s.size).toList.take 8) = numL ((s.toList.drop 1).take 8) := by rw [ext_list]
  have HF0 : firstL s.toList = (fromF (numL ((s.toList.drop 1).take 8))).map fun f => (⟨3, 0, f, []⟩, (s.toList.drop 1).drop 8) := by rw [first_at h0 hc, first_l3, if_neg (by rw [List.length_drop, len_list]; omega)]
  have hx : ((s.extract 1 s.size).extract 8 (s.size - 1)).toList = (s.toList.drop 1).drop 8 := by rw [← hq, ext_list, ext_list]
  have HX := Lib.hid hx
  clear hx
  have HU := Lib.hid (KeyW.num_lt hl8)
  generalize numL ((s.toList.drop 1).take 8) = u at hn HF0 HU hsm
  have hg : goodV 3 0 (fromV u) [] = true := by unfold goodV fromV; cases e : fromF u with | none => rw [e] at hsm; cases hsm | some x => simp [(FloatW.from_some HU.out e).1]
  have HF := Lib.hid (show firstL s.toList = some (⟨3, 0, fromV u, []⟩, (s.toList.drop 1).drop 8) by rw [HF0]; unfold fromV; cases e : fromF u with | none => rw [e] at hsm; cases hsm | some x => rfl)
  clear hc hl8 HF0
  go_enter Tryd.func76, Tryd.ntmps76
  go_wp2
  go_region
  go_wp2_with (first | (go_at_call 86; refine (wide_yes _ (by rw [ext_size]; omega) (by rw [ext_size]; omega) _).mono ?_; rintro e w1 ⟨rfl, hb⟩; obtain ⟨HR1, hs11, HB1⟩ := box4d hb; have c0 := HR1.out.cell 0; have c1 := HR1.out.cell 1; have c2 := HR1.out.cell 2; have c3 := HR1.out.cell 3; clear hb) | (go_at_call 87; refine (from_any _ HU.out _).mono ?_; rintro e w' ⟨rfl, rfl⟩) | (refine wpList_field_any rfl 31 (.tmp 62) (.tmp 57) rfl w.heap.size 2 (.float .f64 (fromV u)) rfl rfl rfl 33 _ #[.int .i64 3, .int .i64 0, .float .f64 (fromV u), .string ⟨#[]⟩] HR1.out rfl rfl infoF64 ?_; intro w2 hR0 hW0 hz0; have HR2 := Lib.hid hR0; have HB2 := Lib.hid (hW0 _ _ HB1.out (Nat.le_refl _)); have hs12 : w.heap.size < w2.heap.size := (by omega); have c0 := HR2.out.cell 0; have c1 := HR2.out.cell 1; have c2 := HR2.out.cell 2; have c3 := HR2.out.cell 3; clear hR0 hW0 hz0) | (go_at_call 48; refine (good_any _ _ _ _ _).mono ?_; rintro e w3 ⟨rfl, hb⟩; obtain ⟨HR3, hs13, HB3⟩ := boxR HR2.out HB2.out hs12 hb; have c0 := HR3.out.cell 0; have c1 := HR3.out.cell 1; have c2 := HR3.out.cell 2; have c3 := HR3.out.cell 3; clear hb) | (refine wpList_store_any rfl 33 (.tmp 2) (.tmp 80) rfl w.heap.size #[.int .i64 3, .int .i64 0, .float .f64 (fromV u), .string ⟨#[]⟩] rfl rfl 33 _ HR3.out info24 rfl (all4 rfl rfl rfl rfl) ?_; intro W2 hR0 hW0 hz0; have hR := Lib.hid hR0; have hW := Lib.hid (hW0 _ _ HB3.out (Nat.le_refl _)); clear hR0 hW0 hz0))
  exact bodyPost_ret (results_cell_two (p := 2) (u := 3) (v := 4) rfl _ W2 w.heap.size 33 _ _ rfl hR.out Tryd.underlying33 rfl info24) rfl ⟨first_out HF.out rfl rfl rfl (one_list []) (HX.out), hW.out⟩

set_option maxHeartbeats 2000000 in
set_option maxRecDepth 100000 in
theorem first_3f (s : ByteArray) (h0 : 0 < s.size) (hs : s.size ≤ 140737488351232) (hc : s[0] = 3) (h8 : 9 ≤ s.size) (hsm : (fromF (numL ((s.toList.drop 1).take 8))).isSome = false) (w : World) :
    Calls Tryd.prog 76 #[.string s] w fun e w' => e = .returned (fOf (firstL s.toList)) ∧ Below w.heap.size w w' := by
  have hne := not_empty h0
  have a0 : (0 : Int) < (s.size : Int) := by omega
  have a1 : (1 : Int) ≤ (s.size : Int) := by omega
  have hk : (s[0].toNat : Int) = 3 := by rw [hc]; rfl
  have hq : (s.extract 1 s.size).size = s.size - 1 := ext_size s
  have hl8 : ((s.toList.drop 1).take 8).length = 8 := by rw [List.length_take, List.length_drop, len_list]; omega
  have hn : numL ((s.extract 1 s.size).toList.take 8) = numL ((s.toList.drop 1).take 8) := by rw [ext_list]
  have HF0 : firstL s.toList = (fromF (numL ((s.toList.drop 1).take 8))).map fun f => (⟨3, 0, f, []⟩, (s.toList.drop 1).drop 8) := by rw [first_at h0 hc, first_l3, if_neg (by rw [List.length_drop, len_list]; omega)]
  have hx : ((s.extract 1 s.size).extract 8 (s.size - 1)).toList = (s.toList.drop 1).drop 8 := by rw [← hq, ext_list, ext_list]
  have HX := Lib.hid hx
  clear hx
  have HU := Lib.hid (KeyW.num_lt hl8)
  generalize numL ((s.toList.drop 1).take 8) = u at hn HF0 HU hsm
  have HF := Lib.hid (show firstL s.toList = none by rw [HF0]; cases e : fromF u with | none => rfl | some x => rw [e] at hsm; cases hsm)
  clear hc hl8 HF0
  go_enter Tryd.func76, Tryd.ntmps76
  go_wp2
  go_region
  go_wp2_with (first | (go_at_call 86; refine (wide_yes _ (by rw [ext_size]; omega) (by rw [ext_size]; omega) _).mono ?_; rintro e w1 ⟨rfl, hb⟩; obtain ⟨HR1, hs11, HB1⟩ := box4d hb; have c0 := HR1.out.cell 0; have c1 := HR1.out.cell 1; have c2 := HR1.out.cell 2; have c3 := HR1.out.cell 3; clear hb) | (go_at_call 87; refine (from_any _ HU.out _).mono ?_; rintro e w' ⟨rfl, rfl⟩) | (refine wpList_field_any rfl 31 (.tmp 62) (.tmp 57) rfl w.heap.size 2 (.float .f64 (fromV u)) rfl rfl rfl 33 _ #[.int .i64 3, .int .i64 0, .float .f64 (fromV u), .string ⟨#[]⟩] HR1.out rfl rfl infoF64 ?_; intro w2 hR0 hW0 hz0; have HR2 := Lib.hid hR0; have HB2 := Lib.hid (hW0 _ _ HB1.out (Nat.le_refl _)); have hs12 : w.heap.size < w2.heap.size := (by omega); have c0 := HR2.out.cell 0; have c1 := HR2.out.cell 1; have c2 := HR2.out.cell 2; have c3 := HR2.out.cell 3; clear hR0 hW0 hz0) | (refine wpList_store_any rfl 33 (.tmp 2) (.tmp 79) rfl w.heap.size #[.int .i64 0, .int .i64 0, .float .f64 0, .string ⟨#[]⟩] rfl rfl 33 _ HR2.out info24 rfl (all4 rfl rfl rfl rfl) ?_; intro W2 hR0 hW0 hz0; have hR := Lib.hid hR0; have hW := Lib.hid (hW0 _ _ HB2.out (Nat.le_refl _)); clear hR0 hW0 hz0))
  exact bodyPost_ret (results_cell_two (p := 2) (u := 3) (v := 4) rfl _ W2 w.heap.size 33 _ _ rfl hR.out Tryd.underlying33 rfl info24) rfl ⟨first_none HF.out, hW.out⟩

set_option maxHeartbeats 2000000 in
set_option maxRecDepth 100000 in
theorem first_4n (s : ByteArray) (h0 : 0 < s.size) (hs : s.size ≤ 140737488351232) (hc : s[0] = 4) (ht : textL (s.toList.drop 1) = none) (w : World) :
    Calls Tryd.prog 76 #[.string s] w fun e w' => e = .returned (fOf (firstL s.toList)) ∧ Below w.heap.size w w' := by
  have hne := not_empty h0
  have a0 : (0 : Int) < (s.size : Int) := by omega
  have a1 : (1 : Int) ≤ (s.size : Int) := by omega
  have hk : (s[0].toNat : Int) = 4 := by rw [hc]; rfl
  have hq : (s.extract 1 s.size).size = s.size - 1 := ext_size s
  have HQ := Lib.hid (show (s.extract 1 s.size).size ≤ 140737488351232 by omega)
  have HF0 : firstL s.toList = (textL (s.toList.drop 1)).bind fun x => if x.1.length ≤ 256 then some (⟨4, 0, 0, x.1⟩, x.2) else none := by rw [first_at h0 hc]; rfl
  have hel : textL (s.extract 1 s.size).toList = textL (s.toList.drop 1) := by rw [ext_list]
  have ht1 : textT (s.extract 1 s.size).toList = [] := by unfold textT; rw [hel, ht]
  have ht2 : textR (s.extract 1 s.size).toList = [] := by unfold textR; rw [hel, ht]
  have ht3 : (textL (s.extract 1 s.size).toList).isSome = false := by rw [hel, ht]; rfl
  have HF := Lib.hid (show firstL s.toList = none by rw [HF0, ht]; rfl)
  clear hc ht HF0 hel
  go_enter Tryd.func76, Tryd.ntmps76
  go_wp2
  go_region
  go_wp2_with (first | (go_at_call 88; refine (ktext_any _ HQ.out _).mono ?_; rintro e w1 ⟨rfl, hb⟩; obtain ⟨HR1, hs11, HB1⟩ := box4d hb; have c0 := HR1.out.cell 0; have c1 := HR1.out.cell 1; have c2 := HR1.out.cell 2; have c3 := HR1.out.cell 3; clear hb) | (refine wpList_field_any rfl 9 (.tmp 71) (.tmp 68) rfl w.heap.size 3 (.string ⟨#[]⟩) rfl rfl rfl 33 _ #[.int .i64 4, .int .i64 0, .float .f64 0, .string ⟨#[]⟩] HR1.out rfl rfl infoStr ?_; intro w2 hR0 hW0 hz0; have HR2 := Lib.hid hR0; have HB2 := Lib.hid (hW0 _ _ HB1.out (Nat.le_refl _)); have hs12 : w.heap.size < w2.heap.size := (by omega); have c0 := HR2.out.cell 0; have c1 := HR2.out.cell 1; have c2 := HR2.out.cell 2; have c3 := HR2.out.cell 3; clear hR0 hW0 hz0) | (refine wpList_store_any rfl 33 (.tmp 2) (.tmp 79) rfl w.heap.size #[.int .i64 0, .int .i64 0, .float .f64 0, .string ⟨#[]⟩] rfl rfl 33 _ HR2.out info24 rfl (all4 rfl rfl rfl rfl) ?_; intro W2 hR0 hW0 hz0; have hR := Lib.hid hR0; have hW := Lib.hid (hW0 _ _ HB2.out (Nat.le_refl _)); clear hR0 hW0 hz0))
  exact bodyPost_ret (results_cell_two (p := 2) (u := 3) (v := 4) rfl _ W2 w.heap.size 33 _ _ rfl hR.out Tryd.underlying33 rfl info24) rfl ⟨first_none HF.out, hW.out⟩

set_option maxHeartbeats 2000000 in
set_option maxRecDepth 100000 in
theorem first_4y (s : ByteArray) (h0 : 0 < s.size) (hs : s.size ≤ 140737488351232) (hc : s[0] = 4) (t r : List UInt8) (ht : textL (s.toList.drop 1) = some (t, r)) (hl : t.length ≤ 256) (w : World) :
    Calls Tryd.prog 76 #[.string s] w fun e w' => e = .returned (fOf (firstL s.toList)) ∧ Below w.heap.size w w' := by
  have hne := not_empty h0
  have a0 : (0 : Int) < (s.size : Int) := by omega
  have a1 : (1 : Int) ≤ (s.size : Int) := by omega
  have hk : (s[0].toNat : Int) = 4 := by rw [hc]; rfl
  have hq : (s.extract 1 s.size).size = s.size - 1 := ext_size s
  have HQ := Lib.hid (show (s.extract 1 s.size).size ≤ 140737488351232 by omega)
  have HF0 : firstL s.toList = (textL (s.toList.drop 1)).bind fun x => if x.1.length ≤ 256 then some (⟨4, 0, 0, x.1⟩, x.2) else none := by rw [first_at h0 hc]; rfl
  have hel : textL (s.extract 1 s.size).toList = textL (s.toList.drop 1) := by rw [ext_list]
  have ht1 : textT (s.extract 1 s.size).toList = t := by unfold textT; rw [hel, ht]
  have ht2 : textR (s.extract 1 s.size).toList = r := by unfold textR; rw [hel, ht]
  have ht3 : (textL (s.extract 1 s.size).toList).isSome = true := by rw [hel, ht]; rfl
  have HF := Lib.hid (show firstL s.toList = some (⟨4, 0, 0, t⟩, r) by rw [HF0, ht]; simp [hl])
  have hg : goodV 4 0 0 t = true := by simp [goodV, hl]
  clear hc ht HF0 hel
  go_enter Tryd.func76, Tryd.ntmps76
  go_wp2
  go_region
  go_wp2_with (first | (go_at_call 88; refine (ktext_any _ HQ.out _).mono ?_; rintro e w1 ⟨rfl, hb⟩; obtain ⟨HR1, hs11, HB1⟩ := box4d hb; have c0 := HR1.out.cell 0; have c1 := HR1.out.cell 1; have c2 := HR1.out.cell 2; have c3 := HR1.out.cell 3; clear hb) | (refine wpList_field_any rfl 9 (.tmp 71) (.tmp 68) rfl w.heap.size 3 (.string ⟨t.toArray⟩) rfl rfl rfl 33 _ #[.int .i64 4, .int .i64 0, .float .f64 0, .string ⟨t.toArray⟩] HR1.out rfl rfl infoStr ?_; intro w2 hR0 hW0 hz0; have HR2 := Lib.hid hR0; have HB2 := Lib.hid (hW0 _ _ HB1.out (Nat.le_refl _)); have hs12 : w.heap.size < w2.heap.size := (by omega); have c0 := HR2.out.cell 0; have c1 := HR2.out.cell 1; have c2 := HR2.out.cell 2; have c3 := HR2.out.cell 3; clear hR0 hW0 hz0) | (go_at_call 48; refine (good_any _ _ _ _ _).mono ?_; rintro e w3 ⟨rfl, hb⟩; obtain ⟨HR3, hs13, HB3⟩ := boxR HR2.out HB2.out hs12 hb; have c0 := HR3.out.cell 0; have c1 := HR3.out.cell 1; have c2 := HR3.out.cell 2; have c3 := HR3.out.cell 3; clear hb) | (refine wpList_store_any rfl 33 (.tmp 2) (.tmp 80) rfl w.heap.size #[.int .i64 4, .int .i64 0, .float .f64 0, .string ⟨t.toArray⟩] rfl rfl 33 _ HR3.out info24 rfl (all4 rfl rfl rfl rfl) ?_; intro W2 hR0 hW0 hz0; have hR := Lib.hid hR0; have hW := Lib.hid (hW0 _ _ HB3.out (Nat.le_refl _)); clear hR0 hW0 hz0))
  exact bodyPost_ret (results_cell_two (p := 2) (u := 3) (v := 4) rfl _ W2 w.heap.size 33 _ _ rfl hR.out Tryd.underlying33 rfl info24) rfl ⟨first_out HF.out rfl rfl rfl (one_list _) (one_list _), hW.out⟩

set_option maxHeartbeats 2000000 in
set_option maxRecDepth 100000 in
theorem first_4l (s : ByteArray) (h0 : 0 < s.size) (hs : s.size ≤ 140737488351232) (hc : s[0] = 4) (t r : List UInt8) (ht : textL (s.toList.drop 1) = some (t, r)) (hl : ¬ t.length ≤ 256) (w : World) :
    Calls Tryd.prog 76 #[.string s] w fun e w' => e = .returned (fOf (firstL s.toList)) ∧ Below w.heap.size w w' := by
  have hne := not_empty h0
  have a0 : (0 : Int) < (s.size : Int) := by omega
  have a1 : (1 : Int) ≤ (s.size : Int) := by omega
  have hk : (s[0].toNat : Int) = 4 := by rw [hc]; rfl
  have hq : (s.extract 1 s.size).size = s.size - 1 := ext_size s
  have HQ := Lib.hid (show (s.extract 1 s.size).size ≤ 140737488351232 by omega)
  have HF0 : firstL s.toList = (textL (s.toList.drop 1)).bind fun x => if x.1.length ≤ 256 then some (⟨4, 0, 0, x.1⟩, x.2) else none := by rw [first_at h0 hc]; rfl
  have hel : textL (s.extract 1 s.size).toList = textL (s.toList.drop 1) := by rw [ext_list]
  have ht1 : textT (s.extract 1 s.size).toList = t := by unfold textT; rw [hel, ht]
  have ht2 : textR (s.extract 1 s.size).toList = r := by unfold textR; rw [hel, ht]
  have ht3 : (textL (s.extract 1 s.size).toList).isSome = true := by rw [hel, ht]; rfl
  have HF := Lib.hid (show firstL s.toList = none by rw [HF0, ht]; simp [hl])
  have hg : goodV 4 0 0 t = false := by simp [goodV]; omega
  clear hc ht HF0 hel
  go_enter Tryd.func76, Tryd.ntmps76
  go_wp2
  go_region
  go_wp2_with (first | (go_at_call 88; refine (ktext_any _ HQ.out _).mono ?_; rintro e w1 ⟨rfl, hb⟩; obtain ⟨HR1, hs11, HB1⟩ := box4d hb; have c0 := HR1.out.cell 0; have c1 := HR1.out.cell 1; have c2 := HR1.out.cell 2; have c3 := HR1.out.cell 3; clear hb) | (refine wpList_field_any rfl 9 (.tmp 71) (.tmp 68) rfl w.heap.size 3 (.string ⟨t.toArray⟩) rfl rfl rfl 33 _ #[.int .i64 4, .int .i64 0, .float .f64 0, .string ⟨t.toArray⟩] HR1.out rfl rfl infoStr ?_; intro w2 hR0 hW0 hz0; have HR2 := Lib.hid hR0; have HB2 := Lib.hid (hW0 _ _ HB1.out (Nat.le_refl _)); have hs12 : w.heap.size < w2.heap.size := (by omega); have c0 := HR2.out.cell 0; have c1 := HR2.out.cell 1; have c2 := HR2.out.cell 2; have c3 := HR2.out.cell 3; clear hR0 hW0 hz0) | (go_at_call 48; refine (good_any _ _ _ _ _).mono ?_; rintro e w3 ⟨rfl, hb⟩; obtain ⟨HR3, hs13, HB3⟩ := boxR HR2.out HB2.out hs12 hb; have c0 := HR3.out.cell 0; have c1 := HR3.out.cell 1; have c2 := HR3.out.cell 2; have c3 := HR3.out.cell 3; clear hb) | (refine wpList_store_any rfl 33 (.tmp 2) (.tmp 79) rfl w.heap.size #[.int .i64 0, .int .i64 0, .float .f64 0, .string ⟨#[]⟩] rfl rfl 33 _ HR3.out info24 rfl (all4 rfl rfl rfl rfl) ?_; intro W2 hR0 hW0 hz0; have hR := Lib.hid hR0; have hW := Lib.hid (hW0 _ _ HB3.out (Nat.le_refl _)); clear hR0 hW0 hz0))
  exact bodyPost_ret (results_cell_two (p := 2) (u := 3) (v := 4) rfl _ W2 w.heap.size 33 _ _ rfl hR.out Tryd.underlying33 rfl info24) rfl ⟨first_none HF.out, hW.out⟩

/-- The value with whose key a text begins, of any text. -/
theorem first_any (s : ByteArray) (hs : s.size ≤ 140737488351232) (w : World) :
    Calls Tryd.prog 76 #[.string s] w fun e w' => e = .returned (fOf (firstL s.toList)) ∧ Below w.heap.size w w' := by
  by_cases h0 : 0 < s.size
  · by_cases k0 : s[0] = 0
    · exact first_0 s h0 k0 w
    by_cases k1 : s[0] = 1
    · by_cases h1 : 1 < s.size
      · by_cases hb : s[1] ≤ 1
        · exact first_1y s h0 k1 h1 hb w
        · exact first_1n s h0 k1 h1 hb w
      · exact first_1e s h0 k1 (by omega) w
    by_cases k2 : s[0] = 2
    · by_cases h8 : 9 ≤ s.size
      · exact first_2y s h0 hs k2 h8 w
      · exact first_2n s h0 k2 (by omega) w
    by_cases k3 : s[0] = 3
    · by_cases h8 : 9 ≤ s.size
      · cases hm : (fromF (numL ((s.toList.drop 1).take 8))).isSome
        · exact first_3f s h0 hs k3 h8 hm w
        · exact first_3y s h0 hs k3 h8 hm w
      · exact first_3n s h0 k3 (by omega) w
    by_cases k4 : s[0] = 4
    · cases ht : textL (s.toList.drop 1) with
      | none => exact first_4n s h0 hs k4 ht w
      | some x =>
        obtain ⟨t, r⟩ := x
        by_cases hl : t.length ≤ 256
        · exact first_4y s h0 hs k4 t r ht hl w
        · exact first_4l s h0 hs k4 t r ht hl w
    exact first_5 s h0 k0 k1 k2 k3 k4 w
  · have : s = ⟨#[]⟩ := ByteArray.ext (Array.eq_empty_of_size_eq_zero (by show s.size = 0; omega))
    subst this
    have h : firstL (⟨#[]⟩ : ByteArray).toList = none := by rw [show (⟨#[]⟩ : ByteArray).toList = [] from one_list []]; rfl
    rw [h]
    exact first_empty w

end Go.Proofs.YtecmppmkidefmaaDoor
