/-
  The walk over a key more: found already; room on its leaf.
-/
import Derived.Test.YtecmppmkidefmaaDoorH5
import Derived.Test.YtecmppmkidefmaaDoorT3
import Derived.Outline
import Derived.StillTailTactics
import Derived.Deep.RegionHeld3
import Derived.BigQuiet
import Derived.Deep.QuietTactic
namespace Go.Proofs.YtecmppmkidefmaaDoor
open Go.RowKit LeafW

theorem results_mid {P : Program} {fn : Func} {p u v : Tmp} {ty : TypeId} (h : fn.results = #[.tmp u, .cell p ty, .tmp v]) (tmps : Array Value) (w : World) (g : Nat) (t : TypeId) (cs : Array Value) (d : TypeDesc)
    (hp : tmps.getD p undef = .pointer (some ⟨g, 0, none⟩)) (hg : Row5 w g t cs)
    (hu : P.underlying ty = some d) (hd : (match d with | .struct _ | .array _ _ => true | _ => false) = true) (hi : (P.info? ty).map (·.size) = some cs.size) :
    (results fn tmps).run P w = .ok (.tuple #[tmps.getD u undef, .agg cs, tmps.getD v undef]) w := by
  have hp' : tmps[p]?.getD undef = .pointer (some ⟨g, 0, none⟩) := by simpa using hp
  simp [results, h, hp', asAddr, run_loadVar_row w g t ty cs (0, 0) d hg hu hd hi]
theorem info37 : (Tryd.prog.info? 37).map (·.size) = some 2 := by kernel_rfl
theorem info68 : (Tryd.prog.info? 68).map (·.size) = some 1 := by kernel_rfl
theorem info71 : (Tryd.prog.info? 71).map (·.size) = some 1 := by kernel_rfl
theorem info3 : (Tryd.prog.info? 3).map (·.size) = some 1 := by kernel_rfl

theorem Row5.drewN {w : World} {b : Nat} {T : TypeId} {cs : Array Value} (h : Row5 w b T cs) (q : Nat) : Row5 (w.drewN q) b T cs := h

theorem all2 {a b : Value} (h1 : a.oneCell' = true) (h2 : b.oneCell' = true) : (#[a, b] : Array Value).all (·.oneCell') = true := by simp [*]

/-- The answer of a change. -/
def ansV (a : Ans) : Value := .tuple #[.int .i64 a.leaf, .agg #[.int .i64 a.src, .int .i64 a.dst], .int .i64 a.e]

theorem at_at (w : World) (p : Nat) (sv : Value) (ls : List (Nat × Value)) (s : St) (hl : LvsAt w p sv ls s) (hI : Inv s.l) (k : ByteArray) (i : Nat) (hi : atL s.l k = i) :
    Calls Tryd.prog 36 #[.pointer (some ⟨p, 0, none⟩), .string k] w fun e w' => e = .returned (.int .i64 i) ∧ w = w' := by
  rw [← hi]; exact at_any w p sv ls s hl hI k
theorem search_at (w : World) (v : Value) (ks : List ByteArray) (h : w.ownsRow 0 9 1 v ks.length (ks.map .string)) (hs : Srt ks) (hbig : ks.length < 4611686018427387904) (k : ByteArray) (p : Nat) (b : Bool) (hp : pos ks k = p) (hb : decide (k ∈ ks) = b) :
    Calls Tryd.prog 37 #[v, .string k] w fun e w' => e = .returned (.tuple #[.int .i64 p, .bool b]) ∧ ∃ q, w' = w.drewN q := by
  rw [← hp, ← hb]; exact search_any w v ks h hs hbig k

section
variable (w : World) (p g N c q : Nat) (v : Value) (la lb : List (Nat × Value)) (fan nx : Nat) (pre post : List Leaf) (y : Leaf)

/-- A leaf among leaves. -/
structure Here : Prop where
  hl : LvsAt w p (.slice (some ⟨g, 0, none⟩) N c) (la ++ (q, v) :: lb) ⟨fan, nx, pre ++ y :: post⟩
  la : la.length = pre.length
  ks : y.ks.length < 4096
  n : N < 4096
variable {w p g N c q v la lb fan nx pre post y}
theorem Here.fresh {w' : World} (h : Here w p g N c q v la lb fan nx pre post y) (hb : Below w.heap.size w w') : Here w' p g N c q v la lb fan nx pre post y :=
  ⟨h.hl.fresh hb, h.la, h.ks, h.n⟩
theorem Here.len (h : Here w p g N c q v la lb fan nx pre post y) : N = (la ++ (q, v) :: lb).length := by
  rcases own_cases h.hl.own with ⟨e, _⟩ | ⟨g', cap, cur, e, _⟩
  · cases e
  · cases e; rfl
theorem Here.lt (h : Here w p g N c q v la lb fan nx pre post y) : pre.length < N := by rw [h.len, List.length_append, List.length_cons, ← h.la]; omega
theorem Here.p0 (h : Here w p g N c q v la lb fan nx pre post y) : w.cell? ⟨p, 0, none⟩ = some (.int .i64 fan) := h.hl.row.cell 0
theorem Here.p1 (h : Here w p g N c q v la lb fan nx pre post y) : w.cell? ⟨p, 1, none⟩ = some (.slice (some ⟨g, 0, none⟩) N c) := h.hl.row.cell 1
theorem Here.p2 (h : Here w p g N c q v la lb fan nx pre post y) : w.cell? ⟨p, 2, none⟩ = some (.int .i64 nx) := h.hl.row.cell 2
theorem Here.gi (h : Here w p g N c q v la lb fan nx pre post y) : w.cell? ⟨g, pre.length, none⟩ = some (.pointer (some ⟨q, 0, none⟩)) := by
  have h1 := h.hl
  rw [h.len] at h1
  rw [← h.la]
  exact h1.ptr la.length (q, v) mid_get
theorem Here.qrow (h : Here w p g N c q v la lb fan nx pre post y) : ∃ bd, Row5 w q 70 #[.int .i64 y.n, .string bd, v] ∧ ((la.length == 0) = false → bd = y.b) := (h.hl.here h.la).row
theorem Here.q0 (h : Here w p g N c q v la lb fan nx pre post y) : w.cell? ⟨q, 0, none⟩ = some (.int .i64 y.n) := by obtain ⟨bd, hr, _⟩ := h.qrow; exact hr.cell 0
theorem Here.q2 (h : Here w p g N c q v la lb fan nx pre post y) : w.cell? ⟨q, 2, none⟩ = some v := by obtain ⟨bd, hr, _⟩ := h.qrow; exact hr.cell 2
theorem Here.own (h : Here w p g N c q v la lb fan nx pre post y) : w.ownsRow 0 9 1 v y.ks.length (y.ks.map .string) := (h.hl.here h.la).own
theorem Here.qv (h : Here w p g N c q v la lb fan nx pre post y) : v.ownBlock ≠ some q := (foot_split h.hl.nd).2.2.2.2.1

/-- A leaf found among leaves in order. -/
structure Found (w : World) (p g N c q : Nat) (v : Value) (la lb : List (Nat × Value)) (fan nx : Nat) (pre post : List Leaf) (y : Leaf) (k : ByteArray) : Prop where
  here : Here w p g N c q v la lb fan nx pre post y
  inv : Inv (pre ++ y :: post)
  at' : atL (pre ++ y :: post) k = pre.length
  few : y.ks.length ≤ fan
  fan64 : fan ≤ 64
variable {k : ByteArray}
theorem Found.fresh {w' : World} (h : Found w p g N c q v la lb fan nx pre post y k) (hb : Below w.heap.size w w') : Found w' p g N c q v la lb fan nx pre post y k :=
  ⟨h.here.fresh hb, h.inv, h.at', h.few, h.fan64⟩
theorem Found.srt (h : Found w p g N c q v la lb fan nx pre post y k) : Srt y.ks := h.inv.srt y (by simp)

/-- What stands at each step of a change: the leaves, the row of what is told, and all else as it was. -/
structure Mid (w0 w : World) (F : List Nat) (mv : Array Value) (p g N c q : Nat) (v : Value) (la lb : List (Nat × Value)) (fan nx : Nat) (pre post : List Leaf) (y : Leaf) : Prop where
  here : Here w p g N c q v la lb fan nx pre post y
  mv : Row5 w w0.heap.size 37 mv
  sub : ∀ b ∈ foot p (.slice (some ⟨g, 0, none⟩) N c) (la ++ (q, v) :: lb), b ∈ F ∨ w0.heap.size < b
  keep : Keep F w0 w
  old : ∀ b ∈ F, b < w0.heap.size
variable {w0 : World} {F : List Nat} {mv : Array Value}
theorem Mid.size (h : Mid w0 w F mv p g N c q v la lb fan nx pre post y) : w0.heap.size < w.heap.size := h.mv.lt
theorem Mid.start (h : Here w p g N c q v la lb fan nx pre post y) (z : Array Value) : Mid w (w.alloc (.cells z 37)) (foot p (.slice (some ⟨g, 0, none⟩) N c) (la ++ (q, v) :: lb)) z p g N c q v la lb fan nx pre post y :=
  ⟨h.fresh ((Below.refl _ _).alloc (Nat.le_refl _) _), Row5.new _ _ _, fun _ hb => .inl hb, keep_alloc _ _ _, h.hl.lt⟩
theorem Mid.call {w' : World} (h : Mid w0 w F mv p g N c q v la lb fan nx pre post y) (hb : Below w.heap.size w w') : Mid w0 w' F mv p g N c q v la lb fan nx pre post y :=
  ⟨h.here.fresh hb, h.mv.below hb h.size, h.sub, h.keep.trans (Keep.of_below hb []) (fun _ c => by cases c), h.old⟩
theorem Mid.drewN (h : Mid w0 w F mv p g N c q v la lb fan nx pre post y) (n : Nat) : Mid w0 (w.drewN n) F mv p g N c q v la lb fan nx pre post y := h.call (below_drewN (Below.refl _ _) n)
theorem Mid.alloc (h : Mid w0 w F mv p g N c q v la lb fan nx pre post y) (o : Obj) : Mid w0 (w.alloc o) F mv p g N c q v la lb fan nx pre post y := h.call ((Below.refl _ _).alloc (Nat.le_refl _) o)
theorem Mid.ne (h : Mid w0 w F mv p g N c q v la lb fan nx pre post y) : ∀ b ∈ foot p (.slice (some ⟨g, 0, none⟩) N c) (la ++ (q, v) :: lb), b ≠ w0.heap.size := fun b hb e => by
  rcases h.sub b hb with k | k
  · have := h.old b k; omega
  · omega
theorem Mid.inq (_h : Mid w0 w F mv p g N c q v la lb fan nx pre post y) : q ∈ foot p (.slice (some ⟨g, 0, none⟩) N c) (la ++ (q, v) :: lb) := mem_foot.2 (.inr (.inr (mem_footL_mid.2 (.inl rfl))))
theorem Mid.inv (_h : Mid w0 w F mv p g N c q v la lb fan nx pre post y) {b : Nat} (hb : v.ownBlock = some b) : b ∈ foot p (.slice (some ⟨g, 0, none⟩) N c) (la ++ (q, v) :: lb) := mem_foot.2 (.inr (.inr (mem_footL_mid.2 (.inr (.inl hb)))))
/-- What a call has done that wrote the row of the leaf's keys, and the store of what it gave. -/
theorem Mid.keys {w' : World} {G : List Nat} {v' : Value} {ks : List ByteArray} (h : Mid w0 w F mv p g N c q v la lb fan nx pre post y) (hk : Keep G w w') (hG : ∀ b ∈ G, b = q ∨ v.ownBlock = some b ∨ w.heap.size ≤ b)
    (hq : ∃ bd, Row5 w' q 70 #[.int .i64 y.n, .string bd, v'] ∧ ((la.length == 0) = false → bd = y.b)) (ho : w'.ownsRow 0 9 1 v' ks.length (ks.map .string)) (hks : ks.length < 4096)
    (hv : ∀ b, v'.ownBlock = some b → v.ownBlock = some b ∨ w.heap.size ≤ b) : Mid w0 w' F mv p g N c q v' la lb fan nx pre post { y with ks := ks } := by
  have hs := h.size
  have hl := h.here.hl.put h.here.la hk hG (y' := { y with ks := ks }) ⟨hq, ho⟩ hv
  refine ⟨⟨hl, h.here.la, hks, h.here.n⟩, hk.row h.mv (fun c => ?_), fun b hb => ?_, h.keep.trans hk (fun b hb => ?_), h.old⟩
  · rcases hG _ c with e | e | e
    · exact h.ne q h.inq e.symm
    · exact h.ne _ (h.inv e) rfl
    · omega
  · rcases mem_foot.1 hb with e | e | e
    · exact h.sub b (mem_foot.2 (.inl e))
    · exact h.sub b (mem_foot.2 (.inr (.inl e)))
    · rcases mem_footL_mid.1 e with e | e | e
      · exact h.sub b (by rw [e]; exact h.inq)
      · rcases hv b e with e | e
        · exact h.sub b (h.inv e)
        · exact .inr (by omega)
      · exact h.sub b (mem_foot.2 (.inr (.inr (mem_footL_mid.2 (.inr (.inr e))))))
  · rcases hG b hb with e | e | e
    · rcases h.sub q h.inq with k | k
      · exact .inl (by rw [e]; exact k)
      · exact .inr (by omega)
    · rcases h.sub b (h.inv e) with k | k
      · exact .inl k
      · exact .inr (by omega)
    · exact .inr (by omega)
/-- A store into the row of what is told. -/
theorem Mid.told {w' : World} {mv' : Array Value} (h : Mid w0 w F mv p g N c q v la lb fan nx pre post y) (hk : Keep [w0.heap.size] w w') (hr : Row5 w' w0.heap.size 37 mv') : Mid w0 w' F mv' p g N c q v la lb fan nx pre post y := by
  refine ⟨⟨h.here.hl.keep hk (fun b hb c => h.ne b hb (by simpa using c)), h.here.la, h.here.ks, h.here.n⟩, hr, h.sub, h.keep.trans hk (fun b hb => .inr (by simp at hb; omega)), h.old⟩
/-- A store into the leaves' own struct: the next number. -/
theorem Mid.next {w' : World} {nx' : Nat} (h : Mid w0 w F mv p g N c q v la lb fan nx pre post y) (hk : Keep [p] w w') (hr : Row5 w' p 73 #[.int .i64 fan, .slice (some ⟨g, 0, none⟩) N c, .int .i64 nx']) :
    Mid w0 w' F mv p g N c q v la lb fan nx' pre post y := by
  have hp : p ∈ foot p (.slice (some ⟨g, 0, none⟩) N c) (la ++ (q, v) :: lb) := mem_foot.2 (.inl rfl)
  refine ⟨⟨h.here.hl.setTop hr hk, h.here.la, h.here.ks, h.here.n⟩, hk.row h.mv (fun e => h.ne p hp (List.mem_singleton.1 e).symm), h.sub, h.keep.trans hk (fun b hb => ?_), h.old⟩
  have hb' : b = p := by simpa using hb
  rcases h.sub p hp with k | k
  · exact .inl (by rw [hb']; exact k)
  · exact .inr (by omega)
/-- What stands at the end. -/
theorem Mid.finish (h : Mid w0 w F mv p g N c q v la lb fan nx pre post y) : ∃ sv' ls', LvsAt w p sv' ls' ⟨fan, nx, pre ++ y :: post⟩ ∧ (∀ b ∈ foot p sv' ls', b ∈ F ∨ w0.heap.size ≤ b) ∧ Keep F w0 w :=
  ⟨_, _, h.here.hl, fun b hb => (h.sub b hb).imp id Nat.le_of_lt, h.keep⟩

theorem wpList_cell_row {P : Program} {w : World} {ops : Array Oper} {rest : List Oper} {o : Oper} {a : Act} {Q : Exit → Act → World → Prop} (hgd : o.guard = none) (ty : TypeId) (x y : Operand) (ho : o.op = .store ty x y)
    (g j : Nat) (v : Value) (hx : a.eval x = .pointer (some ⟨g, j, none⟩)) (hy : a.eval y = v) (h1 : v.oneCell' = true) (t : TypeId) (cs cs' : Array Value) (hg : Row5 w g t cs) (hj : decide (j < cs.size) = true) (hcs : cs.setIfInBounds j v = cs')
    (hi : (P.info? ty).map (·.size) = some 1)
    (h : ∀ W2, Row5 W2 g t cs' → Keep [g] w W2 → wpList P ops Q rest (a.put o.dst undef) W2) : wpList P ops Q (o :: rest) a w :=
  wpList_plain hgd fun _ hK => by
    subst hcs
    unfold Oper.wp execOp
    simp only [ho, hx, hy, Instr.storeAt, Instr.sureAddr, Sem.run_bind, Sem.run_pure, Result.andThen_ok, run_storeVar_cell w g j t ty cs v hg (of_decide_eq_true hj) hi h1]
    exact hK _ _ (h _ (row5_cell hg j v) (setCells_keep (g := g) [v] j w))
/-- A whole struct stored over a row. -/
theorem wpList_store_keep {P : Program} {w : World} {ops : Array Oper} {rest : List Oper} {o : Oper} {a : Act} {Q : Exit → Act → World → Prop} (hgd : o.guard = none) (ty : TypeId) (x y : Operand) (ho : o.op = .store ty x y)
    (g : Nat) (cells : Array Value) (hx : a.eval x = .pointer (some ⟨g, 0, none⟩)) (hy : a.eval y = .agg cells)
    (t : TypeId) (old : Array Value) (hg : Row5 w g t old) (hi : (P.info? ty).map (·.size) = some cells.size)
    (hold : old.size = cells.size) (h1 : cells.all (·.oneCell') = true)
    (h : ∀ W2, Row5 W2 g t cells → Keep [g] w W2 → wpList P ops Q rest (a.put o.dst undef) W2) : wpList P ops Q (o :: rest) a w :=
  wpList_store_row hgd ty x y ho g cells hx hy t old hg hi hold h1 (h _ (row5_set hg cells) ⟨rfl, rfl, rfl, by simp, fun k _ hk => by
    exact setRow_other w g k cells (fun e => hk (by simp [e]))⟩)

set_option maxHeartbeats 4000000 in
set_option maxRecDepth 100000 in
theorem insert_found (h : Found w p g N c q v la lb fan nx pre post y k) (hk : k.size ≤ 1024) (hf : k ∈ y.ks) :
    Calls Tryd.prog 24 #[.pointer (some ⟨p, 0, none⟩), .string k] w fun e w' => e = .returned (ansV ⟨0, 0, 0, 62⟩) ∧ Below w.heap.size w w' := by
  have hb : Below w.heap.size w (w.alloc (.cells #[.int .i64 0, .int .i64 0] 37)) := (Below.refl _ _).alloc (Nat.le_refl _) _
  have HL := Lib.hid (h.fresh hb)
  have HM := Lib.hid (Row5.new w 37 #[.int .i64 0, .int .i64 0])
  have HF := Lib.hid (decide_eq_true hf)
  have p1 := HL.out.here.p1; have gi := HL.out.here.gi; have q2 := HL.out.here.q2
  have i0 : (0 : Int) ≤ (pre.length : Int) := by omega
  have i1 : (pre.length : Int) < (N : Int) := by have := h.here.lt; omega
  have HB := Lib.hid hb
  clear hf h hb
  go_enter Tryd.func24, Tryd.ntmps24
  go_wp2_with (first | (go_at_call 36; refine (at_at _ _ _ _ _ HL.out.here.hl HL.out.inv _ _ HL.out.at').mono ?_; rintro e w1 ⟨rfl, rfl⟩) | (go_at_call 37; refine (search_at _ _ _ HL.out.here.own HL.out.srt (by have := HL.out.here.ks; omega) _ _ _ rfl HF.out).mono ?_; rintro e w1 ⟨rfl, nq, rfl⟩) | (refine wpList_store_any rfl 37 (.tmp 5) (.tmp 42) rfl w.heap.size #[.int .i64 0, .int .i64 0] rfl rfl 37 #[.int .i64 0, .int .i64 0] (HM.out.drewN nq) info37 rfl (all2 rfl rfl) ?_; intro W2 hR0 hW0 hz0; have hR := Lib.hid hR0; have hW := Lib.hid (hW0 w.heap.size w (below_drewN HB.out nq) (Nat.le_refl _)); clear hR0 hW0 hz0))
  exact bodyPost_ret (results_mid (p := 5) (u := 4) (v := 6) rfl _ W2 w.heap.size 37 _ _ rfl hR.out Tryd.underlying37 rfl info37) rfl ⟨rfl, hW.out⟩

end
end Go.Proofs.YtecmppmkidefmaaDoor
