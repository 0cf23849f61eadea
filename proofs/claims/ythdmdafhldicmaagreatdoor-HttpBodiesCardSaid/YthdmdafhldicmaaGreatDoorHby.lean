/- ROWS OF BYTES of the call's own: they grow, and are read as a text. No walk. -/
import Derived.Test.YthdmdafhldicmaaGreatDoorHBase
import Derived.Lib.SlBytesRow
import Derived.Lib.BufferRead
import Derived.Laws.OwnMore
import Derived.Lib.SmallJoins
namespace Go.Proofs.YthdmdafhldicmaaGreatDoor
open Go.RowKit

theorem infoU8 : (Tryz.prog.info? 5).map (fun i => (i.zero, i.size, i.bytes)) = some (some (.int .u8 0), 1, 1) := by kernel_rfl
/-- A row of bytes from block B on. -/
def OB (B : Nat) (v : Value) (l : List UInt8) (w : World) : Prop := w.ownsRow B 5 1 v l.length (Lib.byteCells l)
theorem OB.nil (B : Nat) (w : World) : OB B (.slice none 0 0) [] w := World.ownsRow_nil _ _ _ _
theorem OB.below {B : Nat} {v : Value} {l : List UInt8} {w w' : World} (h : OB B v l w) (k : Below w.heap.size w w') : OB B v l w' :=
  World.ownsRow.kept (row := none) h ⟨k.os, k.tape, k.output, k.size, fun i hi _ => k.block i hi⟩ (by cases hv : v.ownBlock with | none => exact .inl rfl | some g => exact .inr (by simp))
theorem OB.drewN {B : Nat} {v : Value} {l : List UInt8} {w : World} (h : OB B v l w) (n : Nat) : OB B v l (w.drewN n) := h.below (below_dN (Below.refl _ _) n)
theorem OB.forms {B : Nat} {v : Value} {l : List UInt8} {w : World} (h : OB B v l w) : (v = .slice none 0 0 ∧ l = []) ∨ ∃ g cap, v = .slice (some ⟨g, 0, none⟩) l.length cap ∧ B ≤ g ∧ g < w.heap.size := by
  rcases Joins.ownsRow_forms h with ⟨h1, h2⟩ | ⟨g, cap, h1⟩
  · exact .inl ⟨h1, List.length_eq_zero_iff.1 h2⟩
  · subst h1
    exact .inr ⟨g, cap, rfl, World.ownsRow.lt h g rfl⟩
theorem OB.conv {B : Nat} {v : Value} {l : List UInt8} {w : World} (h : OB B v l w) : (convert 50 9 v).run Tryz.prog w = .ok (.string ⟨l.toArray⟩) w := by
  rcases h.forms with ⟨rfl, rfl⟩ | ⟨g, cap, rfl, _, _⟩
  · exact Lib.run_convert_nil_bytes w _ _ 5 0 Tryz.underlying50 Tryz.underlying5 Tryz.underlying9
  · have hb : Lib.Bytes w g 0 ⟨l.toArray⟩ := fun i hi => by
      have hi2 : i < l.length := by rw [size_list] at hi; exact hi
      have h3 := World.ownsRow.cells h (g := g) rfl i (.int .u8 (l[i].toNat : Int)) (by simp [Lib.byteCells, hi2])
      rw [Addr.add_lit] at h3
      exact h3
    have h4 := Lib.run_convert_whole (P := Tryz.prog) w 50 5 9 Tryz.underlying50 Tryz.underlying5 Tryz.underlying9 g 0 ⟨l.toArray⟩ hb cap
    rw [size_list] at h4
    exact h4
theorem OB.len0 {B : Nat} {v : Value} {w : World} (h : OB B v [] w) : ∃ a c, v = .slice a 0 c := by
  rcases h.forms with ⟨rfl, _⟩ | ⟨g, cap, rfl, _, _⟩
  · exact ⟨_, _, rfl⟩
  · exact ⟨_, _, rfl⟩
theorem OB.own {B : Nat} {v : Value} {l : List UInt8} {w : World} (h : OB B v l w) : ∀ k, v.ownBlock = some k → B ≤ k := fun k hk => (World.ownsRow.lt h k hk).1
end Go.Proofs.YthdmdafhldicmaaGreatDoor
