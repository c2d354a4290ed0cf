/-
  The walk over the test whether steps are few and short.
-/
import Derived.Test.YtecmppmkidefmaaDoorH19
namespace Go.Proofs.YtecmppmkidefmaaDoor
open Go.RowKit LeafW

/-- One step of a law's list. -/
structure StepR where
  k : Int
  t : Int
  vk : Int
  vn : Int
  vf : Nat
  vs : ByteArray
  wk : Int
  wn : Int
  wf : Nat
  ws : ByteArray
structure StepR.Ok (s : StepR) : Prop where
  vn : -9223372036854775808 ≤ s.vn ∧ s.vn ≤ 9223372036854775807
  vf : s.vf < 18446744073709551616
  wn : -9223372036854775808 ≤ s.wn ∧ s.wn ≤ 9223372036854775807
  wf : s.wf < 18446744073709551616
/-- A step's ten cells. -/
structure StepAt (w : World) (g o : Nat) (s : StepR) : Prop where
  c0 : w.cell? ⟨g, o, none⟩ = some (.int .i64 s.k)
  c1 : w.cell? ⟨g, o + 1, none⟩ = some (.int .i64 s.t)
  c2 : w.cell? ⟨g, o + 2, none⟩ = some (.int .i64 s.vk)
  c3 : w.cell? ⟨g, o + 3, none⟩ = some (.int .i64 s.vn)
  c4 : w.cell? ⟨g, o + 4, none⟩ = some (.float .f64 s.vf)
  c5 : w.cell? ⟨g, o + 5, none⟩ = some (.string s.vs)
  c6 : w.cell? ⟨g, o + 6, none⟩ = some (.int .i64 s.wk)
  c7 : w.cell? ⟨g, o + 7, none⟩ = some (.int .i64 s.wn)
  c8 : w.cell? ⟨g, o + 8, none⟩ = some (.float .f64 s.wf)
  c9 : w.cell? ⟨g, o + 9, none⟩ = some (.string s.ws)
/-- Steps in a slice that came in. -/
structure StepsAt (w : World) (a : Option Addr) (xs : List StepR) : Prop where
  each : ∀ j s, xs[j]? = some s → ∃ g o, a = some ⟨g, o, none⟩ ∧ StepAt w g (o + j * 10) s ∧ s.Ok
  few : xs.length ≤ 9223372036854775807
theorem cell_below {w w' : World} (hb : Below w.heap.size w w') {p : Addr} {v : Value} (h : w.cell? p = some v) : w'.cell? p = some v := (hb.cell (World.block_lt_of_cell? _ _ h)).trans h
theorem StepAt.below {w w' : World} {g o : Nat} {s : StepR} (h : StepAt w g o s) (hb : Below w.heap.size w w') : StepAt w' g o s :=
  ⟨cell_below hb h.c0, cell_below hb h.c1, cell_below hb h.c2, cell_below hb h.c3, cell_below hb h.c4, cell_below hb h.c5, cell_below hb h.c6, cell_below hb h.c7, cell_below hb h.c8, cell_below hb h.c9⟩
theorem StepsAt.below {w w' : World} {a : Option Addr} {xs : List StepR} (h : StepsAt w a xs) (hb : Below w.heap.size w w') : StepsAt w' a xs :=
  ⟨fun j s hs => let ⟨g, o, e, h1, h2⟩ := h.each j s hs; ⟨g, o, e, h1.below hb, h2⟩, h.few⟩

set_option maxHeartbeats 4000000 in
set_option maxRecDepth 100000 in
/-- Are steps few, and short? -/
theorem fair_any (w : World) (a : Option Addr) (c n : Nat) (xs : List StepR) (h : StepsAt w a xs) (hn : xs.length = n) :
    Calls Tryd.prog 7 #[.slice a n c] w fun e w' => ∃ b, e = .returned (.bool b) ∧ (b = true → n ≤ 150) ∧ Below w.heap.size w w' := by
  have HS := Lib.hid h
  have HN := Lib.hid hn
  have few := h.few
  rw [hn] at few
  clear h hn
  go_enter Tryd.func7, Tryd.ntmps7
  go_wp2
  go_loopw [3] (fun i wr => ∃ j : Nat, j ≤ n ∧ i = .int .i64 j ∧ Hid (Below w.heap.size w wr)) (fun i _ => n - (intOf i).toNat)
  case atStart => exact ⟨0, Nat.zero_le _, rfl, Lib.hid (Below.refl _ _)⟩
  case round =>
    obtain ⟨j, hj, rfl, HB⟩ := hrel
    by_cases hlt : j < n
    · obtain ⟨s, hs⟩ : ∃ s, xs[j]? = some s := ⟨_, List.getElem?_eq_getElem (by rw [HN.out]; exact hlt)⟩
      obtain ⟨g, o, rfl, h1, _⟩ := (HS.out.below HB.out).each j s hs
      have i0 : (0 : Int) ≤ (j : Int) := by omega
      have i1 : (j : Int) < (n : Int) := by omega
      have H1 := Lib.hid h1
      have c2 := h1.c2; have c3 := h1.c3; have c4 := h1.c4; have c5 := h1.c5
      clear hs h1
      go_wp2_with fail
      refine (large_any _ _ _ _ _).mono ?_
      rintro e w1 ⟨rfl, hb⟩
      have HB1 := Lib.hid (HB.out.trans (hb.mono HB.out.size))
      have H2 := Lib.hid (H1.out.below hb)
      clear hb c2 c3 c4 c5 H1
      have c6 := H2.out.c6; have c7 := H2.out.c7; have c8 := H2.out.c8; have c9 := H2.out.c9
      cases hl1 : decide (2000 < (s.vs.size : Int))
      · go_wp2_with fail
        refine (large_any _ _ _ _ _).mono ?_
        rintro e w2 ⟨rfl, hb⟩
        have HB2 := Lib.hid (HB1.out.trans (hb.mono HB1.out.size))
        clear hb c6 c7 c8 c9 H2
        cases hl2 : decide (2000 < (s.ws.size : Int))
        · go_wp2
          go_roundw
          case rel => exact ⟨j + 1, by omega, by go_num, HB2⟩
          case measure => simp [intOf]; omega
        · go_wp2
          go_ret
          exact ⟨false, rfl, ⟨(fun e => nomatch e), HB2.out⟩⟩
      · go_wp2
        go_ret
        exact ⟨false, rfl, ⟨(fun e => nomatch e), HB1.out⟩⟩
    · obtain rfl : j = n := by omega
      go_wp2
      go_ret
      exact ⟨decide ((j : Int) ≤ 150), rfl, (fun e => by have := of_decide_eq_true e; omega), HB.out⟩

end Go.Proofs.YtecmppmkidefmaaDoor
