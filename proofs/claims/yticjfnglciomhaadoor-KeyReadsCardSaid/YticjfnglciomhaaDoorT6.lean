/-
  The walks over the value of a key, and the value and the number of an entry's key (the reference's).
-/
import Derived.Test.YticjfnglciomhaaDoorT5
namespace Go.Proofs.YticjfnglciomhaaDoor
open Go.RowKit

/-- What the reference answers of an entry's key: a value and a number in one struct. -/
def gotV (l : List UInt8) : Value := match firstL l with
  | some (v, [a, b]) => .tuple #[.agg #[.int .i64 v.k, .int .i64 v.n, .float .f64 v.f, .string ⟨v.l.toArray⟩, .int .i64 ((a.toNat : Int) * 256 + b.toNat)], .int .i64 0]
  | _ => .tuple #[.agg #[.int .i64 0, .int .i64 0, .float .f64 0, .string ⟨#[]⟩, .int .i64 0], .int .i64 11]
theorem gotV_not {l : List UInt8} (h : ∀ v r, firstL l = some (v, r) → r.length ≠ 2) : gotV l = .tuple #[.agg #[.int .i64 0, .int .i64 0, .float .f64 0, .string ⟨#[]⟩, .int .i64 0], .int .i64 11] := by
  unfold gotV
  cases e : firstL l with
  | none => rfl
  | some x =>
    obtain ⟨v, r⟩ := x
    have := h v r e
    match r, this with
    | [], _ => rfl
    | [a], _ => rfl
    | [a, b], h => exact absurd rfl h
    | a :: b :: c :: d, _ => rfl
/-- How long what was read is. -/
theorem first_size {s : ByteArray} {v : Val} {r : List UInt8} (h : firstL s.toList = some (v, r)) : r.length + 1 ≤ s.size := by
  have := (KeyW.key_of_first h).2.1
  have hp := KeyW.keyL_pos v.k v.n v.f v.l
  rw [← len_list, this, List.length_append]; omega
theorem info47 : (Tryd.prog.info? 47).map (·.size) = some 5 := by kernel_rfl

set_option maxHeartbeats 2000000 in
set_option maxRecDepth 100000 in
theorem rvalue_none (s : ByteArray) (hs : s.size ≤ 140737488351232) (h : firstL s.toList = none) (w : World) :
    Calls Tryd.prog 18 #[.string s] w fun e w' => e = .returned (valueV s.toList) ∧ Below w.heap.size w w' := by
  have HS := Lib.hid (show valueV s.toList = .tuple #[V 0 0 0 ⟨#[]⟩, .int .i64 11] by unfold valueV; rw [h])
  have H1 := Lib.hid (show r5 s.size (firstL s.toList) = .agg #[.int .i64 0, .int .i64 0, .float .f64 0, .string ⟨#[]⟩, .int .i64 0] by rw [h]; rfl)
  have HZ := Lib.hid hs
  clear hs h
  go_enter Tryd.func18, Tryd.ntmps18
  go_wp2_with (first | (go_at_call 36; refine (read_any _ HZ.out _).mono ?_; rintro e w1 ⟨rfl, hb⟩; rw [H1.out]; obtain ⟨HR1, hs1, HB1⟩ := boxN hb; clear hb) | (refine wpList_store_any rfl 24 (.tmp 2) (.tmp 17) rfl w.heap.size #[.int .i64 0, .int .i64 0, .float .f64 0, .string ⟨#[]⟩] rfl rfl 24 _ (HR1.out.alloc _) info24 rfl (all4 rfl rfl rfl rfl) ?_; intro w2 hR0 hW0 hz0; have HR2 := Lib.hid hR0; have HB2 := Lib.hid (hW0 _ _ (HB1.out.alloc (Nat.le_of_lt hs1) _) (Nat.le_refl _)); clear hR0 hW0 hz0))
  exact bodyPost_ret (results_cell_one (p := 2) (u := 3) rfl _ w2 w.heap.size 24 _ _ rfl HR2.out Tryd.underlying24 rfl info24) rfl ⟨by rw [HS.out]; rfl, HB2.out⟩

set_option maxHeartbeats 2000000 in
set_option maxRecDepth 100000 in
theorem rvalue_some (s : ByteArray) (hs : s.size ≤ 140737488351232) (v : Val) (c : UInt8) (r : List UInt8) (h : firstL s.toList = some (v, c :: r)) (w : World) :
    Calls Tryd.prog 18 #[.string s] w fun e w' => e = .returned (valueV s.toList) ∧ Below w.heap.size w w' := by
  have HS := Lib.hid (show valueV s.toList = .tuple #[V 0 0 0 ⟨#[]⟩, .int .i64 11] by unfold valueV; rw [h])
  have hl := first_size h
  obtain ⟨z, hz⟩ : ∃ z : Int, (s.size : Int) - ((c :: r).length : Int) = z := ⟨_, rfl⟩
  have z0 : (z == 0) = false := beq_eq_false_iff_ne.2 (by omega)
  have z1 : (z != (s.size : Int)) = true := by { rw [List.length_cons] at hz; unfold bne; rw [beq_eq_false_iff_ne.2 (by omega)]; rfl }
  have H1 := Lib.hid (show r5 s.size (firstL s.toList) = .agg #[.int .i64 v.k, .int .i64 v.n, .float .f64 v.f, .string ⟨v.l.toArray⟩, .int .i64 z] by rw [h]; unfold r5; simp only; rw [hz])
  have HZ := Lib.hid hs
  clear hs h hz
  go_enter Tryd.func18, Tryd.ntmps18
  go_wp2_with (first | (go_at_call 36; refine (read_any _ HZ.out _).mono ?_; rintro e w1 ⟨rfl, hb⟩; rw [H1.out]; obtain ⟨HR1, hs1, HB1⟩ := boxN hb; clear hb) | (refine wpList_store_any rfl 24 (.tmp 2) (.tmp 17) rfl w.heap.size #[.int .i64 0, .int .i64 0, .float .f64 0, .string ⟨#[]⟩] rfl rfl 24 _ (HR1.out.alloc _) info24 rfl (all4 rfl rfl rfl rfl) ?_; intro w2 hR0 hW0 hz0; have HR2 := Lib.hid hR0; have HB2 := Lib.hid (hW0 _ _ (HB1.out.alloc (Nat.le_of_lt hs1) _) (Nat.le_refl _)); clear hR0 hW0 hz0))
  exact bodyPost_ret (results_cell_one (p := 2) (u := 3) rfl _ w2 w.heap.size 24 _ _ rfl HR2.out Tryd.underlying24 rfl info24) rfl ⟨by rw [HS.out]; rfl, HB2.out⟩

set_option maxHeartbeats 2000000 in
set_option maxRecDepth 100000 in
theorem rvalue_yes (s : ByteArray) (hs : s.size ≤ 140737488351232) (v : Val) (h : firstL s.toList = some (v, [])) (w : World) :
    Calls Tryd.prog 18 #[.string s] w fun e w' => e = .returned (valueV s.toList) ∧ Below w.heap.size w w' := by
  have HS := Lib.hid (show valueV s.toList = .tuple #[V v.k v.n v.f ⟨v.l.toArray⟩, .int .i64 0] by unfold valueV; rw [h])
  have hl := first_size h
  obtain ⟨z, hz⟩ : ∃ z : Int, (s.size : Int) - (([] : List UInt8).length : Int) = z := ⟨_, rfl⟩
  have z0 : (z == 0) = false := beq_eq_false_iff_ne.2 (by omega)
  have z1 : (z != (s.size : Int)) = false := by { rw [List.length_nil] at hz; unfold bne; rw [beq_iff_eq.2 (by omega)]; rfl }
  have H1 := Lib.hid (show r5 s.size (firstL s.toList) = .agg #[.int .i64 v.k, .int .i64 v.n, .float .f64 v.f, .string ⟨v.l.toArray⟩, .int .i64 z] by rw [h]; unfold r5; simp only; rw [hz])
  have HZ := Lib.hid hs
  clear hs h hz
  go_enter Tryd.func18, Tryd.ntmps18
  go_wp2_with (first | (go_at_call 36; refine (read_any _ HZ.out _).mono ?_; rintro e w1 ⟨rfl, hb⟩; rw [H1.out]; obtain ⟨HR1, hs1, HB1⟩ := boxN hb; clear hb) | (refine wpList_store_any rfl 24 (.tmp 2) (.tmp 19) rfl w.heap.size #[.int .i64 v.k, .int .i64 v.n, .float .f64 v.f, .string ⟨v.l.toArray⟩] rfl rfl 24 _ (HR1.out.alloc _) info24 rfl (all4 rfl rfl rfl rfl) ?_; intro w2 hR0 hW0 hz0; have HR2 := Lib.hid hR0; have HB2 := Lib.hid (hW0 _ _ (HB1.out.alloc (Nat.le_of_lt hs1) _) (Nat.le_refl _)); clear hR0 hW0 hz0))
  exact bodyPost_ret (results_cell_one (p := 2) (u := 3) rfl _ w2 w.heap.size 24 _ _ rfl HR2.out Tryd.underlying24 rfl info24) rfl ⟨by rw [HS.out]; rfl, HB2.out⟩

theorem rvalue_any (s : ByteArray) (hs : s.size ≤ 140737488351232) (w : World) :
    Calls Tryd.prog 18 #[.string s] w fun e w' => e = .returned (valueV s.toList) ∧ Below w.heap.size w w' := by
  cases h : firstL s.toList with
  | none => exact rvalue_none s hs h w
  | some x =>
    obtain ⟨v, r⟩ := x
    cases r with
    | nil => exact rvalue_yes s hs v h w
    | cons c r => exact rvalue_some s hs v c r h w

set_option maxHeartbeats 2000000 in
set_option maxRecDepth 100000 in
theorem rsplit_none (s : ByteArray) (hs : s.size ≤ 140737488351232) (h : firstL s.toList = none) (w : World) :
    Calls Tryd.prog 19 #[.string s] w fun e w' => e = .returned (gotV s.toList) ∧ Below w.heap.size w w' := by
  have HS := Lib.hid (gotV_not (l := s.toList) (by rw [h]; intro v r e; cases e))
  have H1 := Lib.hid (show r5 s.size (firstL s.toList) = .agg #[.int .i64 0, .int .i64 0, .float .f64 0, .string ⟨#[]⟩, .int .i64 0] by rw [h]; rfl)
  have HZ := Lib.hid hs
  clear hs h
  go_enter Tryd.func19, Tryd.ntmps19
  go_wp2_with (first | (go_at_call 36; refine (read_any _ HZ.out _).mono ?_; rintro e w1 ⟨rfl, hb⟩; rw [H1.out]; obtain ⟨HR1, hs1, HB1⟩ := boxN hb; clear hb) | (refine wpList_store_any rfl 47 (.tmp 2) (.tmp 18) rfl w.heap.size #[.int .i64 0, .int .i64 0, .float .f64 0, .string ⟨#[]⟩, .int .i64 0] rfl rfl 47 _ (HR1.out.alloc _) info47 rfl (all5 rfl rfl rfl rfl rfl) ?_; intro w2 hR0 hW0 hz0; have HR2 := Lib.hid hR0; have HB2 := Lib.hid (hW0 _ _ (HB1.out.alloc (Nat.le_of_lt hs1) _) (Nat.le_refl _)); clear hR0 hW0 hz0))
  exact bodyPost_ret (results_cell_one (p := 2) (u := 3) rfl _ w2 w.heap.size 47 _ _ rfl HR2.out Tryd.underlying47 rfl info47) rfl ⟨by rw [HS.out]; rfl, HB2.out⟩

set_option maxHeartbeats 2000000 in
set_option maxRecDepth 100000 in
theorem rsplit_some (s : ByteArray) (hs : s.size ≤ 140737488351232) (v : Val) (r : List UInt8) (h : firstL s.toList = some (v, r)) (hr : r.length ≠ 2) (w : World) :
    Calls Tryd.prog 19 #[.string s] w fun e w' => e = .returned (gotV s.toList) ∧ Below w.heap.size w w' := by
  have HS := Lib.hid (gotV_not (l := s.toList) (by rw [h]; intro v r e; cases e; exact hr))
  have hl := first_size h
  obtain ⟨z, hz⟩ : ∃ z : Int, (s.size : Int) - (r.length : Int) = z := ⟨_, rfl⟩
  have z0 : (z == 0) = false := beq_eq_false_iff_ne.2 (by omega)
  have z1 : (z + 2 != (s.size : Int)) = true := by { unfold bne; rw [beq_eq_false_iff_ne.2 (by omega)]; rfl }
  have w1 : wrap64 (z + 2) = z + 2 := w64_in _ (by omega)
  clear hr
  have H1 := Lib.hid (show r5 s.size (firstL s.toList) = .agg #[.int .i64 v.k, .int .i64 v.n, .float .f64 v.f, .string ⟨v.l.toArray⟩, .int .i64 z] by rw [h]; unfold r5; simp only; rw [hz])
  have HZ := Lib.hid hs
  clear hs h hz
  go_enter Tryd.func19, Tryd.ntmps19
  go_wp2_with (first | (go_at_call 36; refine (read_any _ HZ.out _).mono ?_; rintro e w1 ⟨rfl, hb⟩; rw [H1.out]; obtain ⟨HR1, hs1, HB1⟩ := boxN hb; clear hb) | (refine wpList_store_any rfl 47 (.tmp 2) (.tmp 18) rfl w.heap.size #[.int .i64 0, .int .i64 0, .float .f64 0, .string ⟨#[]⟩, .int .i64 0] rfl rfl 47 _ (HR1.out.alloc _) info47 rfl (all5 rfl rfl rfl rfl rfl) ?_; intro w2 hR0 hW0 hz0; have HR2 := Lib.hid hR0; have HB2 := Lib.hid (hW0 _ _ (HB1.out.alloc (Nat.le_of_lt hs1) _) (Nat.le_refl _)); clear hR0 hW0 hz0))
  exact bodyPost_ret (results_cell_one (p := 2) (u := 3) rfl _ w2 w.heap.size 47 _ _ rfl HR2.out Tryd.underlying47 rfl info47) rfl ⟨by rw [HS.out]; rfl, HB2.out⟩

/-- The two last bytes of an entry's key. -/
theorem last_two {s : ByteArray} {v : Val} {a b : UInt8} (h : firstL s.toList = some (v, [a, b])) : ∃ j : Nat, j + 2 = s.size ∧ 1 ≤ j ∧ ∃ (h0 : j < s.size) (h1 : j + 1 < s.size), s[j] = a ∧ s[j + 1] = b := by
  have e := (KeyW.key_of_first h).2.1
  have hp := KeyW.keyL_pos v.k v.n v.f v.l
  have hl : s.size = (keyL v.k v.n v.f v.l).length + 2 := by rw [← len_list, e, List.length_append]; rfl
  generalize hj : (keyL v.k v.n v.f v.l).length = j at hl hp
  have hd : s.toList.drop j = [a, b] := by rw [e, ← hj, List.drop_left]
  have h0 : j < s.size := by omega
  have h1 : j + 1 < s.size := by omega
  rw [drop_at s j h0, drop_at s (j + 1) h1] at hd
  injection hd with q1 q2
  injection q2 with q3 _
  exact ⟨j, by omega, by omega, h0, h1, q1, q3⟩

set_option maxHeartbeats 2000000 in
set_option maxRecDepth 100000 in
theorem rsplit_yes (s : ByteArray) (hs : s.size ≤ 140737488351232) (v : Val) (a b : UInt8) (h : firstL s.toList = some (v, [a, b])) (w : World) :
    Calls Tryd.prog 19 #[.string s] w fun e w' => e = .returned (gotV s.toList) ∧ Below w.heap.size w w' := by
  have HS := Lib.hid (show gotV s.toList = .tuple #[.agg #[.int .i64 v.k, .int .i64 v.n, .float .f64 v.f, .string ⟨v.l.toArray⟩, .int .i64 ((a.toNat : Int) * 256 + b.toNat)], .int .i64 0] by unfold gotV; rw [h])
  obtain ⟨j, hj, hj1, k0, k1, ea, eb⟩ := last_two h
  have hz : (s.size : Int) - (([a, b] : List UInt8).length : Int) = (j : Int) := by rw [show ([a, b] : List UInt8).length = 2 from rfl]; omega
  have H1 := Lib.hid (show r5 s.size (firstL s.toList) = .agg #[.int .i64 v.k, .int .i64 v.n, .float .f64 v.f, .string ⟨v.l.toArray⟩, .int .i64 (j : Int)] by rw [h]; unfold r5; simp only; rw [hz])
  have HZ := Lib.hid hs
  have z0 : ((j : Int) == 0) = false := beq_eq_false_iff_ne.2 (by omega)
  have z1 : ((j : Int) + 2 != (s.size : Int)) = false := by { unfold bne; rw [beq_iff_eq.2 (by omega)]; rfl }
  have w1 : wrap64 ((j : Int) + 2) = (j : Int) + 2 := w64_in _ (by omega)
  have w2 : IntKind.i64.wrap ((j : Int) + 1) = (j : Int) + 1 := IntWalk.i64_in _ (by omega)
  have w3 : wrap64 ((j : Int) + 1) = (j : Int) + 1 := w64_in _ (by omega)
  have l0 : (j : Int) < (s.size : Int) := by omega
  have l1 : (j : Int) + 1 < (s.size : Int) := by omega
  have l2 : ((j : Int) + 1).toNat = j + 1 := by omega
  have l3 : (0 : Int) ≤ (j : Int) + 1 := by omega
  have hp0 : (0 : Int) ≤ (a.toNat : Int) := by omega
  have hp1 : (a.toNat : Int) < 256 := by have := a.toNat_lt; omega
  have hq0 : (0 : Int) ≤ (b.toNat : Int) := by omega
  have hq1 : (b.toNat : Int) < 256 := by have := b.toNat_lt; omega
  have x0 : (s[j].toNat : Int) = (a.toNat : Int) := by rw [ea]
  have x1 : (s[j + 1].toNat : Int) = (b.toNat : Int) := by rw [eb]
  generalize (a.toNat : Int) = p at HS hp0 hp1 x0
  generalize (b.toNat : Int) = q at HS hq0 hq1 x1
  have y0 : wrap64 p = p := w64_in p (by omega)
  have y1 : wrap64 q = q := w64_in q (by omega)
  have y2 : wrap64 (p * 256) = p * 256 := w64_in _ (by omega)
  have y3 : wrap64 (p * 256 + q) = p * 256 + q := w64_in _ (by omega)
  have y4 : IntKind.i64.wrap (p * 256) = p * 256 := IntWalk.i64_in _ (by omega)
  have y5 : IntKind.i64.wrap (p * 256 + q) = p * 256 + q := IntWalk.i64_in _ (by omega)
  clear hs h hz ea eb
  go_enter Tryd.func19, Tryd.ntmps19
  go_wp2_with (go_at_call 36; refine (read_any _ HZ.out _).mono ?_; rintro e w1 ⟨rfl, hb⟩; rw [H1.out]; obtain ⟨HR1, hs1, HB1⟩ := boxN hb; clear hb)
  have d0 := HR1.out.cell 0; have g0 := HR1.out.free 0; have d1 := HR1.out.cell 1; have g1 := HR1.out.free 1; have d2 := HR1.out.cell 2; have g2 := HR1.out.free 2; have d3 := HR1.out.cell 3; have g3 := HR1.out.free 3; have d4 := HR1.out.cell 4; have g4 := HR1.out.free 4
  go_region
  go_wp2
  have hR : Row5 ((((((w1.setCell ⟨w.heap.size, 0, none⟩ (.int .i64 v.k)).setCell ⟨w.heap.size, 1, none⟩ (.int .i64 v.n)).setCell ⟨w.heap.size, 2, none⟩ (.float .f64 v.f)).setCell ⟨w.heap.size, 3, none⟩ (.string ⟨v.l.toArray⟩)).setCell ⟨w.heap.size, 4, none⟩ (.int .i64 (p * 256 + q)))) w.heap.size 47 #[.int .i64 v.k, .int .i64 v.n, .float .f64 v.f, .string ⟨v.l.toArray⟩, .int .i64 (p * 256 + q)] := row5_cell (row5_cell (row5_cell (row5_cell (row5_cell HR1.out 0 _) 1 _) 2 _) 3 _) 4 _
  have hB : Below w.heap.size w ((((((w1.setCell ⟨w.heap.size, 0, none⟩ (.int .i64 v.k)).setCell ⟨w.heap.size, 1, none⟩ (.int .i64 v.n)).setCell ⟨w.heap.size, 2, none⟩ (.float .f64 v.f)).setCell ⟨w.heap.size, 3, none⟩ (.string ⟨v.l.toArray⟩)).setCell ⟨w.heap.size, 4, none⟩ (.int .i64 (p * 256 + q)))) := below_cell (below_cell (below_cell (below_cell (below_cell HB1.out (Nat.le_refl _) _ _) (Nat.le_refl _) _ _) (Nat.le_refl _) _ _) (Nat.le_refl _) _ _) (Nat.le_refl _) _ _
  exact bodyPost_ret (results_cell_one (p := 2) (u := 3) rfl _ _ w.heap.size 47 _ _ rfl (show Row5 (World.drew _) _ _ _ from hR.alloc (.cells #[.int .i64 v.k, .int .i64 v.n, .float .f64 v.f, .string ⟨v.l.toArray⟩, .int .i64 (j : Int)] 68)) Tryd.underlying47 rfl info47) rfl ⟨by rw [HS.out]; rfl, (hB.alloc hB.size _).drew⟩

theorem rsplit_any (s : ByteArray) (hs : s.size ≤ 140737488351232) (w : World) :
    Calls Tryd.prog 19 #[.string s] w fun e w' => e = .returned (gotV s.toList) ∧ Below w.heap.size w w' := by
  cases h : firstL s.toList with
  | none => exact rsplit_none s hs h w
  | some x =>
    obtain ⟨v, r⟩ := x
    by_cases hr : r.length = 2
    · obtain ⟨a, b, rfl⟩ := two_list hr
      exact rsplit_yes s hs v a b h w
    · exact rsplit_some s hs v r h hr w

end Go.Proofs.YticjfnglciomhaaDoor
