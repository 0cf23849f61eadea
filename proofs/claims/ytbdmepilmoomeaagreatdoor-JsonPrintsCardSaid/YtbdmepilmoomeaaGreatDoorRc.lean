/- WALKS: right's closure. -/
import Derived.Test.YtbdmepilmoomeaaGreatDoorIsn
namespace Go.Proofs.YtbdmepilmoomeaaGreatDoor
open Go.RowKit

set_option maxRecDepth 100000 in
theorem closure_calls (d D : Nat) (k : Cx.J) (cs : List Value) (w : World) (ok : Nat → Prop) (hD : w.heap[D]? = some (.cells #[.int .i64 d] 3 (0, 0))) (hd : d ≤ 20)
    (ih : ∀ (v : Cx.J) (cs : List Value) (w : World) (ok : Nat → Prop), JAt w ok v cs → fit maxLen v → Cx.nodes v ≤ 5000 → Glb w → 8 ≤ w.heap.size →
      Calls Tryz.prog 42 #[.agg cs.toArray, .int .i64 ((d : Int) + 1)] w fun e w' => e = .returned (.bool (Cx.right (d + 1) v)) ∧ Below w.heap.size w w')
    (hj : JAt w ok k cs) (hf : fit maxLen k) (hN : Cx.nodes k ≤ 5000) (hg : Glb w) (h8 : 8 ≤ w.heap.size) :
    Calls Tryz.prog 76 #[.agg cs.toArray, .pointer (some ⟨D, 0, none⟩)] w fun e w' => e = .returned (.bool (!Cx.right (d + 1) k)) ∧ Below w.heap.size w w' := by
  cases k with
  | mk x is t ns ks =>
  obtain ⟨a, nc, a', kc, rfl⟩ := hj.shape
  have hDl := heap_lt hD
  have q : w.cell? ⟨D, 0, none⟩ = some (.int .i64 d) := by simp [World.cell?, hD]
  have IH := Lib.hid ih; have J := Lib.hid hj.all; have F := Lib.hid hf; have HN := Lib.hid hN; have HG := Lib.hid hg
  have hne : D ≠ w.heap.size := by omega
  clear ih hj hf hN hg hD
  go_enter Tryz.func76, Tryz.ntmps76
  go_wp2_with fail
  have hb1 := (Below.refl w.heap.size w).alloc (Nat.le_refl _) (.cells #[.int .i64 x, .bool is, .string ⟨t.toArray⟩, .slice a ns.length nc, .slice a' ks.length kc] 26)
  refine (IH.out (.mk x is t ns ks) [.int .i64 x, .bool is, .string ⟨t.toArray⟩, .slice a ns.length nc, .slice a' ks.length kc] _ _ (J.out.below hb1) F.out HN.out (HG.out.alloc _) (Nat.le_trans h8 hb1.size)).mono ?_
  rintro e w5 ⟨rfl, hb5⟩
  have HB := Lib.hid (hb1.trans (hb5.mono hb1.size))
  clear hb1 hb5
  go_wp2
  go_ret
  exact ⟨rfl, HB.out⟩
end Go.Proofs.YtbdmepilmoomeaaGreatDoor
