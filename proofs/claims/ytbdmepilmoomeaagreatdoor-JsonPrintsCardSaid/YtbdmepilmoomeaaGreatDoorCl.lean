/- WHAT THE LISTED VARIABLES GIVE A WALK; a world that meets the condition. -/
import Derived.Test.YtbdmepilmoomeaaGreatDoorOp
import Derived.Lay
import Derived.PinnedBridge
import Derived.Lib.LaidU8T
import Derived.LaidLaws
import Derived.SevenTiedAt
import Derived.Stop.Joined
namespace Go.Proofs.YtbdmepilmoomeaaGreatDoor
open Go.RowKit Go.ChangeShapes Go.WideShapes Go.ChangeAt Go.Lib Go.Shelf

theorem laidOut : laidOutB Tryz.prog = true := by kernel_rfl
theorem own : ownKnob Tryz.prog.godebug = none := by kernel_rfl
theorem xU8 : U8Extra Tryz.prog Tryz.lays260_ren := ⟨by kernel_rfl, by kernel_rfl, by kernel_rfl, by kernel_rfl, by kernel_rfl, by kernel_rfl, by kernel_rfl⟩
theorem accept_eq : (Rows.laid_unicode_utf8_acceptRanges : DataW Unit) = Lib.acceptData := by kernel_rfl
theorem first_eq : Rows.laid_unicode_utf8_first = Lib.firstData := Pinned.utf8First_eq

theorem err_of_reads {W : World} {n nm : String} {g : Nat} {d : DataW Unit} (h : VarReads Tryz.prog W n (.iface nm d)) (hg : Tryz.prog.globalNamed n = some g) (ht : (Tryz.prog.globals[g]?).map (·.type) = some 57) : ErrAt g W := by
  obtain ⟨g', t, cs, fuel, p, hg', ht', hv, hd⟩ := h
  obtain rfl := Option.some.inj (hg.symm.trans hg')
  obtain rfl := Option.some.inj (ht.symm.trans ht')
  obtain ⟨_, u, v, hcs, _⟩ := iface_of_trod Tryz.underlying57 hd
  have := World.var?_cell hg hv 0
  rw [Array.eq_one_of_toList hcs] at this
  exact ⟨_, by simpa using this, .inr ⟨u, v, rfl⟩⟩
theorem block_of_reads {W : World} {n : String} {g : Nat} {d : DataW Unit} (h : VarReads Tryz.prog W n d) (hg : Tryz.prog.globalNamed n = some g) : g < W.heap.size := by
  obtain ⟨g', t, cs, fuel, p, hg', _, hv, _⟩ := h
  obtain rfl := Option.some.inj (hg.symm.trans hg')
  rcases Nat.lt_or_ge g W.heap.size with h | h
  · exact h
  · unfold World.var? at hv
    rw [hg] at hv
    simp [Array.getElem?_eq_none h] at hv

/-- The list that every row of this seat bears. -/
abbrev lst : List (String × DataW Unit) := Rows.jsonReadsRow.laid
theorem glb_of_laid {W : World} (h : laidMetH Tryz.prog lst W) : Glb W ∧ 8 ≤ W.heap.size := by
  rw [MakeChecks.laidMetH_plain _ _ _ (by kernel_rfl)] at h
  have h7 := Lib.laidMet.reads h (.tail _ (.head _))
  have h3 := Lib.laidMet.reads h (.tail _ (.tail _ (.tail _ (.head _))))
  have h4 := Lib.laidMet.reads h (.tail _ (.tail _ (.tail _ (.tail _ (.head _)))))
  have h5 := Lib.laidMet.reads h (.tail _ (.tail _ (.tail _ (.tail _ (.tail _ (.head _))))))
  have h6 := Lib.laidMet.reads h (.tail _ (.tail _ (.tail _ (.tail _ (.tail _ (.tail _ (.head _)))))))
  rw [accept_eq] at h3
  rw [first_eq] at h6
  refine ⟨⟨?_, err_of_reads h5 (by kernel_rfl) (by kernel_rfl), err_of_reads h4 (by kernel_rfl) (by kernel_rfl)⟩, block_of_reads h7 (g := 7) (by kernel_rfl)⟩
  exact utf8Tabs_of_readsT (U8Types.of260 Tryz.lays260) xU8 h6 h3
end Go.Proofs.YtbdmepilmoomeaaGreatDoor
