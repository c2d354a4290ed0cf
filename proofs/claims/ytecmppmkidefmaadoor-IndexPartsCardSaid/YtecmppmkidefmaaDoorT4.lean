/-
  The walks over the value of a key, and the value and the number of an entry's key (the program's).
-/
import Derived.Test.YtecmppmkidefmaaDoorT3
namespace Go.Proofs.YtecmppmkidefmaaDoor
open Go.RowKit

theorem results_cell_one {P : Program} {fn : Func} {p u : Tmp} {ty : TypeId} (h : fn.results = #[.cell p ty, .tmp u]) (tmps : Array Value) (w : World) (g : Nat) (t : TypeId) (cs : Array Value) (d : TypeDesc)
    (hp : tmps.getD p undef = .pointer (some ⟨g, 0, none⟩)) (hg : Row5 w g t cs)
    (hu : P.underlying ty = some d) (hd : (match d with | .struct _ | .array _ _ => true | _ => false) = true) (hi : (P.info? ty).map (·.size) = some cs.size) :
    (results fn tmps).run P w = .ok (.tuple #[.agg cs, tmps.getD u undef]) w := by
  have hp' : tmps[p]?.getD undef = .pointer (some ⟨g, 0, none⟩) := by simpa using hp
  simp [results, h, hp', asAddr, run_loadVar_row w g t ty cs (0, 0) d hg hu hd hi]

/-- A struct of four cells laid new, then a call: the row. -/
theorem boxN {w w1 : World} {cs : Array Value} {T : TypeId} (hb : Below (w.alloc (.cells cs T)).heap.size (w.alloc (.cells cs T)) w1) :
    Hid (Row5 w1 w.heap.size T cs) ∧ w.heap.size < w1.heap.size ∧ Hid (Below w.heap.size w w1) := by
  have hz : (w.alloc (.cells cs T)).heap.size = w.heap.size + 1 := by show (w.heap.push _).size = _; rw [Array.size_push]
  have hs := hb.size
  exact ⟨Lib.hid ((Row5.new w T cs).below (B := w.heap.size + 1) (hb.mono (by omega)) (by omega)), by omega, Lib.hid (((Below.refl _ _).alloc (Nat.le_refl _) _).trans (hb.mono (by omega)))⟩

/-- What the entry's key is split into. -/
def splitV (l : List UInt8) : Value := match firstL l with
  | some (v, [a, b]) => .tuple #[V v.k v.n v.f ⟨v.l.toArray⟩, .int .i64 ((a.toNat : Int) * 256 + b.toNat), .int .i64 0]
  | _ => .tuple #[V 0 0 0 ⟨#[]⟩, .int .i64 0, .int .i64 11]

theorem two_list {l : List UInt8} (h : l.length = 2) : ∃ a b, l = [a, b] := by
  match l, h with
  | [a, b], _ => exact ⟨a, b, rfl⟩
theorem splitV_not {l : List UInt8} (h : ∀ v r, firstL l = some (v, r) → r.length ≠ 2) : splitV l = .tuple #[V 0 0 0 ⟨#[]⟩, .int .i64 0, .int .i64 11] := by
  unfold splitV
  cases e : firstL l with
  | none => rfl
  | some x =>
    obtain ⟨v, r⟩ := x
    have := h v r e
    match r, this with
    | [], _ => rfl
    | [a], _ => rfl
    | [a, b], h => exact absurd rfl h
    | a :: b :: c :: d, _ => rfl

theorem or_two (p q : Int) (hp : 0 ≤ p) (hp2 : p < 256) (hq : 0 ≤ q) (hq2 : q < 256) : bits .or .i64 (p * 256) q = p * 256 + q :=
  bits_join .i64 63 (by decide) (fun n h0 h1 => by
    have e : (2 : Int) ^ 63 = 9223372036854775808 := (by decide)
    rw [e] at h1
    exact IntWalk.i64_in _ ⟨by omega, by omega⟩) 8 (p * 256) q (by omega) (by omega) (by omega) (by omega) (by omega) (by omega)
theorem w64_in (p : Int) (h : -9223372036854775808 ≤ p ∧ p ≤ 9223372036854775807) : wrap64 p = p := by unfold wrap64; omega

set_option maxHeartbeats 2000000 in
set_option maxRecDepth 100000 in
theorem split_yes (s : ByteArray) (hs : s.size ≤ 140737488351232) (v : Val) (a b : UInt8) (h : firstL s.toList = some (v, [a, b])) (w : World) :
    Calls Tryd.prog 60 #[.string s] w fun e w' => e = .returned (splitV s.toList) ∧ Below w.heap.size w w' := by
  have HS := Lib.hid (show splitV s.toList = .tuple #[V v.k v.n v.f ⟨v.l.toArray⟩, .int .i64 ((a.toNat : Int) * 256 + b.toNat), .int .i64 0] by unfold splitV; rw [h])
  have h1 : fOf (firstL s.toList) = .tuple #[.agg #[.int .i64 v.k, .int .i64 v.n, .float .f64 v.f, .string ⟨v.l.toArray⟩], .string ⟨[a, b].toArray⟩, .bool true] := by rw [h]; rfl
  have H1 := Lib.hid h1
  have HZ := Lib.hid hs
  clear h1 hs h
  have e0 : (⟨[a, b].toArray⟩ : ByteArray).size = 2 := rfl
  have hp0 : (0 : Int) ≤ (a.toNat : Int) := by omega
  have hp1 : (a.toNat : Int) < 256 := by have := a.toNat_lt; omega
  have hq0 : (0 : Int) ≤ (b.toNat : Int) := by omega
  have hq1 : (b.toNat : Int) < 256 := by have := b.toNat_lt; omega
  have x0 : (((⟨[a, b].toArray⟩ : ByteArray)[0]'(by rw [e0]; omega)).toNat : Int) = (a.toNat : Int) := rfl
  have x1 : (((⟨[a, b].toArray⟩ : ByteArray)[1]'(by rw [e0]; omega)).toNat : Int) = (b.toNat : Int) := rfl
  generalize (a.toNat : Int) = p at HS hp0 hp1 x0
  generalize (b.toNat : Int) = q at HS hq0 hq1 x1
  have y0 : wrap64 p = p := w64_in p (by omega)
  have y1 : wrap64 q = q := w64_in q (by omega)
  have y2 : wrap64 (p * 256) = p * 256 := w64_in _ (by omega)
  have y3 : bits .or .i64 (p * 256) q = p * 256 + q := or_two p q hp0 hp1 hq0 hq1
  go_enter Tryd.func60, Tryd.ntmps60
  go_wp2_with (first | (go_at_call 76; refine (first_any _ HZ.out _).mono ?_; rintro e w1 ⟨rfl, hb⟩; rw [H1.out]; obtain ⟨HR1, hs1, HB1⟩ := boxN hb; have c0 := HR1.out.cell 0; have c1 := HR1.out.cell 1; have c2 := HR1.out.cell 2; have c3 := HR1.out.cell 3; clear hb) | (refine wpList_store_any rfl 33 (.tmp 2) (.tmp 10) rfl w.heap.size #[.int .i64 v.k, .int .i64 v.n, .float .f64 v.f, .string ⟨v.l.toArray⟩] rfl rfl 33 _ (HR1.out) info24 rfl (all4 rfl rfl rfl rfl) ?_; intro w2 hR0 hW0 hz0; have HR2 := Lib.hid hR0; have HB2 := Lib.hid (hW0 _ _ (HB1.out) (Nat.le_refl _)); have d0 := HR2.out.cell 0; have d1 := HR2.out.cell 1; have d2 := HR2.out.cell 2; have d3 := HR2.out.cell 3; have g0 := HR2.out.free 0; have g1 := HR2.out.free 1; have g2 := HR2.out.free 2; have g3 := HR2.out.free 3; clear hR0 hW0 hz0))
  go_region
  go_wp2
  have hR : Row5 (((((w2.setCell ⟨w.heap.size, 0, none⟩ (.int .i64 v.k)).setCell ⟨w.heap.size, 1, none⟩ (.int .i64 v.n)).setCell ⟨w.heap.size, 2, none⟩ (.float .f64 v.f)).setCell ⟨w.heap.size, 3, none⟩ (.string ⟨v.l.toArray⟩)).drew) w.heap.size 33 #[.int .i64 v.k, .int .i64 v.n, .float .f64 v.f, .string ⟨v.l.toArray⟩] := row5_cell (row5_cell (row5_cell (row5_cell HR2.out 0 _) 1 _) 2 _) 3 _
  exact bodyPost_ret (results_cell_two (p := 2) (u := 3) (v := 4) rfl _ _ w.heap.size 33 _ _ rfl hR Tryd.underlying33 rfl info24) rfl ⟨by rw [HS.out]; rfl, (below_cell (below_cell (below_cell (below_cell HB2.out (Nat.le_refl _) _ _) (Nat.le_refl _) _ _) (Nat.le_refl _) _ _) (Nat.le_refl _) _ _).drew⟩

set_option maxHeartbeats 2000000 in
set_option maxRecDepth 100000 in
theorem split_none (s : ByteArray) (hs : s.size ≤ 140737488351232) (h : firstL s.toList = none) (w : World) :
    Calls Tryd.prog 60 #[.string s] w fun e w' => e = .returned (splitV s.toList) ∧ Below w.heap.size w w' := by
  have HS := Lib.hid (splitV_not (l := s.toList) (by rw [h]; intro v r e; cases e))
  have H1 := Lib.hid (show fOf (firstL s.toList) = .tuple #[.agg #[.int .i64 0, .int .i64 0, .float .f64 0, .string ⟨#[]⟩], .string ⟨#[]⟩, .bool false] by rw [h]; rfl)
  have HZ := Lib.hid hs
  clear hs h
  go_enter Tryd.func60, Tryd.ntmps60
  go_wp2_with (first | (go_at_call 76; refine (first_any _ HZ.out _).mono ?_; rintro e w1 ⟨rfl, hb⟩; rw [H1.out]; obtain ⟨HR1, hs1, HB1⟩ := boxN hb; have c0 := HR1.out.cell 0; have c1 := HR1.out.cell 1; have c2 := HR1.out.cell 2; have c3 := HR1.out.cell 3; clear hb) | (refine wpList_store_any rfl 33 (.tmp 2) (.tmp 10) rfl w.heap.size #[.int .i64 0, .int .i64 0, .float .f64 0, .string ⟨#[]⟩] rfl rfl 33 _ (HR1.out) info24 rfl (all4 rfl rfl rfl rfl) ?_; intro w2 hR0 hW0 hz0; have HR2 := Lib.hid hR0; have HB2 := Lib.hid (hW0 _ _ (HB1.out) (Nat.le_refl _)); have d0 := HR2.out.cell 0; have d1 := HR2.out.cell 1; have d2 := HR2.out.cell 2; have d3 := HR2.out.cell 3; have g0 := HR2.out.free 0; have g1 := HR2.out.free 1; have g2 := HR2.out.free 2; have g3 := HR2.out.free 3; clear hR0 hW0 hz0) | (refine wpList_store_any rfl 33 (.tmp 2) (.tmp 20) rfl w.heap.size #[.int .i64 0, .int .i64 0, .float .f64 0, .string ⟨#[]⟩] rfl rfl 33 _ (HR2.out) info24 rfl (all4 rfl rfl rfl rfl) ?_; intro w3 hR0 hW0 hz0; have HR3 := Lib.hid hR0; have HB3 := Lib.hid (hW0 _ _ (HB2.out) (Nat.le_refl _)); have d0 := HR3.out.cell 0; have d1 := HR3.out.cell 1; have d2 := HR3.out.cell 2; have d3 := HR3.out.cell 3; have g0 := HR3.out.free 0; have g1 := HR3.out.free 1; have g2 := HR3.out.free 2; have g3 := HR3.out.free 3; clear hR0 hW0 hz0))
  exact bodyPost_ret (results_cell_two (p := 2) (u := 3) (v := 4) rfl _ w3 w.heap.size 33 _ _ rfl HR3.out Tryd.underlying33 rfl info24) rfl ⟨by rw [HS.out]; rfl, HB3.out⟩

set_option maxHeartbeats 2000000 in
set_option maxRecDepth 100000 in
theorem split_some (s : ByteArray) (hs : s.size ≤ 140737488351232) (v : Val) (r : List UInt8) (h : firstL s.toList = some (v, r)) (hr : r.length ≠ 2) (w : World) :
    Calls Tryd.prog 60 #[.string s] w fun e w' => e = .returned (splitV s.toList) ∧ Below w.heap.size w w' := by
  have HS := Lib.hid (splitV_not (l := s.toList) (by rw [h]; intro v r e; cases e; exact hr))
  have H1 := Lib.hid (show fOf (firstL s.toList) = .tuple #[.agg #[.int .i64 v.k, .int .i64 v.n, .float .f64 v.f, .string ⟨v.l.toArray⟩], .string ⟨r.toArray⟩, .bool true] by rw [h]; rfl)
  have HZ := Lib.hid hs
  have e0 : ((r.length : Int) != 2) = true := by
    unfold bne; rw [beq_eq_false_iff_ne.2 (by omega)]; rfl
  clear hs h hr
  go_enter Tryd.func60, Tryd.ntmps60
  go_wp2_with (first | (go_at_call 76; refine (first_any _ HZ.out _).mono ?_; rintro e w1 ⟨rfl, hb⟩; rw [H1.out]; obtain ⟨HR1, hs1, HB1⟩ := boxN hb; have c0 := HR1.out.cell 0; have c1 := HR1.out.cell 1; have c2 := HR1.out.cell 2; have c3 := HR1.out.cell 3; clear hb) | (refine wpList_store_any rfl 33 (.tmp 2) (.tmp 10) rfl w.heap.size #[.int .i64 v.k, .int .i64 v.n, .float .f64 v.f, .string ⟨v.l.toArray⟩] rfl rfl 33 _ (HR1.out) info24 rfl (all4 rfl rfl rfl rfl) ?_; intro w2 hR0 hW0 hz0; have HR2 := Lib.hid hR0; have HB2 := Lib.hid (hW0 _ _ (HB1.out) (Nat.le_refl _)); have d0 := HR2.out.cell 0; have d1 := HR2.out.cell 1; have d2 := HR2.out.cell 2; have d3 := HR2.out.cell 3; have g0 := HR2.out.free 0; have g1 := HR2.out.free 1; have g2 := HR2.out.free 2; have g3 := HR2.out.free 3; clear hR0 hW0 hz0) | (refine wpList_store_any rfl 33 (.tmp 2) (.tmp 20) rfl w.heap.size #[.int .i64 0, .int .i64 0, .float .f64 0, .string ⟨#[]⟩] rfl rfl 33 _ (HR2.out) info24 rfl (all4 rfl rfl rfl rfl) ?_; intro w3 hR0 hW0 hz0; have HR3 := Lib.hid hR0; have HB3 := Lib.hid (hW0 _ _ (HB2.out) (Nat.le_refl _)); have d0 := HR3.out.cell 0; have d1 := HR3.out.cell 1; have d2 := HR3.out.cell 2; have d3 := HR3.out.cell 3; have g0 := HR3.out.free 0; have g1 := HR3.out.free 1; have g2 := HR3.out.free 2; have g3 := HR3.out.free 3; clear hR0 hW0 hz0))
  exact bodyPost_ret (results_cell_two (p := 2) (u := 3) (v := 4) rfl _ w3 w.heap.size 33 _ _ rfl HR3.out Tryd.underlying33 rfl info24) rfl ⟨by rw [HS.out]; rfl, HB3.out⟩

theorem split_any (s : ByteArray) (hs : s.size ≤ 140737488351232) (w : World) :
    Calls Tryd.prog 60 #[.string s] w fun e w' => e = .returned (splitV s.toList) ∧ Below w.heap.size w w' := by
  cases h : firstL s.toList with
  | none => exact split_none s hs h w
  | some x =>
    obtain ⟨v, r⟩ := x
    by_cases hr : r.length = 2
    · obtain ⟨a, b, rfl⟩ := two_list hr
      exact split_yes s hs v a b h w
    · exact split_some s hs v r h hr w

/-- The value of a key. -/
def valueV (l : List UInt8) : Value := match firstL l with
  | some (v, []) => .tuple #[V v.k v.n v.f ⟨v.l.toArray⟩, .int .i64 0]
  | _ => .tuple #[V 0 0 0 ⟨#[]⟩, .int .i64 11]

end Go.Proofs.YtecmppmkidefmaaDoor
