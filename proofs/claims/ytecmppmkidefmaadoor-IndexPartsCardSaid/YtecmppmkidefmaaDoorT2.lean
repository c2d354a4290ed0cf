/-
  The walk over a text that is read out of a key (the reference's).
-/
import Derived.Test.YtecmppmkidefmaaDoorT1
namespace Go.Proofs.YtecmppmkidefmaaDoor
open Go.RowKit

/-- What the reference's text answers: the value, and how many bytes. -/
def textZ (l : List UInt8) : Int := match textL l with | some x => (l.length : Int) - x.2.length | none => 0

theorem ret_read {a b c d : Value} {x y : Int} (h : x = y) : Ending.returned (.agg #[a, b, c, d, .int .i64 x]) = .returned (.agg #[a, b, c, d, .int .i64 y]) := by rw [h]

theorem byte_ne {c b : UInt8} (h : c ≠ b) : ((c.toNat : Int) == (b.toNat : Int)) = false := beq_eq_false_iff_ne.2 fun e => h (UInt8.toNat_inj.1 (by omega))

theorem byte_bne {c b : UInt8} (h : c ≠ b) : ((c.toNat : Int) != (b.toNat : Int)) = true := by unfold bne; rw [byte_ne h]; rfl
theorem all5 {a b c d e : Value} (h1 : a.oneCell' = true) (h2 : b.oneCell' = true) (h3 : c.oneCell' = true) (h4 : d.oneCell' = true) (h5 : e.oneCell' = true) : (#[a, b, c, d, e] : Array Value).all (·.oneCell') = true := by simp [*]

theorem info8 : (Tryd.prog.info? 5).map (fun i => (i.zero, i.size, i.bytes)) = some (some (.int .u8 0), 1, 1) := by kernel_rfl

def TextInv2 (s : ByteArray) (i : Nat) (acc : List UInt8) : Prop := textL s.toList = (textL (s.toList.drop i)).map fun x => (acc ++ x.1, x.2)

theorem drop_at (s : ByteArray) (i : Nat) (h : i < s.size) : s.toList.drop i = s[i] :: s.toList.drop (i + 1) := by
  have : i < s.toList.length := by rw [len_list]; exact h
  rw [List.drop_eq_getElem_cons this]
  congr 1
  simp [ByteArray.toList_eq]; rfl
theorem text_cons (c : UInt8) (l : List UInt8) (h : c ≠ 0) : textL (c :: l) = (textL l).map fun x => (c :: x.1, x.2) := by
  cases l with
  | nil => rfl
  | cons d r => simp only [textL, if_neg h]

/-- 'string(b)' of a row of bytes that the call owns. -/
theorem conv_own {w : World} {base : Nat} {v : Value} {l : List UInt8} (h : w.ownsRow base 5 1 v l.length (Lib.byteCells l)) :
    (convert 76 9 v).run Tryd.prog w = .ok (.string ⟨l.toArray⟩) w := by
  have hc := h
  rcases h.2 with ⟨rfl, h0⟩ | ⟨g, cap, cur, rfl, _⟩
  · have : l = [] := List.length_eq_zero_iff.1 h0
    subst this
    exact run_convert_bytes_nil w _ _ Tryd.underlying76 Tryd.underlying5 0 0 _ Tryd.underlying9
  · exact run_convert_bytes_back w _ _ _ ⟨g, 0, none⟩ cap l Tryd.underlying76 Tryd.underlying5 Tryd.underlying9 (fun j hj => by
      refine hc.cells (g := g) rfl j _ ?_
      simp [Lib.byteCells, hj])

end Go.Proofs.YtecmppmkidefmaaDoor
