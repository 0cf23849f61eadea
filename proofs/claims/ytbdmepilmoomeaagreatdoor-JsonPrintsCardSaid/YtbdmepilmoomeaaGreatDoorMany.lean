/- WALKS: many. -/
import Derived.Test.YtbdmepilmoomeaaGreatDoorKid
namespace Go.Proofs.YtbdmepilmoomeaaGreatDoor
open Go.RowKit

set_option maxRecDepth 100000 in
set_option maxHeartbeats 2000000 in
theorem many_calls : ∀ (N : Nat) (v : Cx.J) (cs : List Value) (most : Nat) (w : World) (ok : Nat → Prop), Cx.nodes v ≤ N → JAt w ok v cs → most ≤ 100000 → fit maxLen v →
    Calls Tryz.prog 41 #[.agg cs.toArray, .int .i64 most] w fun e w' => e = .returned (.int .i64 (min (Cx.nodes v) (most + 1) : Nat)) ∧ Below w.heap.size w w' := by
  intro N
  induction N with
  | zero => intro v _ _ _ _ h; have := nodes_pos v; omega
  | succ N ih =>
    intro v cs most w ok hN hj hm hf
    cases v with
    | mk x is t ns ks =>
    obtain ⟨a, nc, a', kc, rfl⟩ := hj.shape
    have hkl : ks.length ≤ maxLen := hf.2.2.2.1
    unfold maxLen at hkl
    have IH := Lib.hid ih; have J := Lib.hid hj.all; have F := Lib.hid hf; have HN := Lib.hid hN
    clear ih hj hf hN
    go_enter Tryz.func41, Tryz.ntmps41
    go_wp2_with fail
    go_loopg [5, 11] (ks.length) (fun q y z wr => ∃ (i n : Nat), y = .int .i64 n ∧ z = .int .i64 i ∧ q = ks.length - i ∧ i ≤ ks.length ∧ n ≤ most + 1 ∧ n = min (1 + Cx.nodesK (ks.take i)) (most + 1) ∧ Hid (Below w.heap.size w wr))
    case atStart => exact ⟨0, 1, rfl, rfl, rfl, Nat.zero_le _, by omega, by simp [Cx.nodesK], Lib.hid ((Below.refl _ w).alloc (Nat.le_refl _) _)⟩
    case round =>
      obtain ⟨i, n, rfl, rfl, hq, hi, hn, hnn, hb⟩ := hrel
      have HQ := Lib.hid hq; have HNN := Lib.hid hnn
      clear hq hnn
      rcases Nat.lt_or_ge i ks.length with hlt | hge
      · obtain ⟨k, hk⟩ : ∃ k, ks[i]? = some k := ⟨ks[i], by simp [hlt]⟩
        obtain ⟨g, o, cap, hv, _, hgl, kb0, kb1, kb2, kb3, hkj, d0, d1, d2, d3, d4⟩ := J.out.kid' hk
        injection hv with ha _ hc
        subst ha hc
        have b0 := (hb.out.cell (p := ⟨g, o + i * 5, none⟩) hgl).trans d0
        have b1 := (hb.out.cell (p := ⟨g, o + i * 5 + 1, none⟩) hgl).trans d1
        have b2 := (hb.out.cell (p := ⟨g, o + i * 5 + 2, none⟩) hgl).trans d2
        have b3 := (hb.out.cell (p := ⟨g, o + i * 5 + 3, none⟩) hgl).trans d3
        have b4 := (hb.out.cell (p := ⟨g, o + i * 5 + 4, none⟩) hgl).trans d4
        have KJ := Lib.hid hkj; have HK := Lib.hid hk
        clear hkj d0 d1 d2 d3 d4 hk
        by_cases hnm : most < n
        · have hnmi : (most : Int) < (n : Int) := by omega
          go_wp2_with fail
          have hfin : min (Cx.nodes (.mk x is t ns ks)) (most + 1) = n := by
            have := HNN.out; have := nodesK_get HK.out
            simp only [Cx.nodes]; omega
          rw [hfin]
          go_ret
          exact ⟨rfl, hb.out.alloc hb.out.size _⟩
        · have hnmi : ¬ (most : Int) < (n : Int) := by omega
          go_wp2_with fail
          have hbb := hb.out.alloc hb.out.size (.cells #[.int .i64 k.kind, .bool k.is, .string ⟨k.text.toArray⟩, .slice kb0 k.names.length kb1, .slice kb2 k.kids.length kb3] 26)
          have hc := IH.out k [.int .i64 k.kind, .bool k.is, .string ⟨k.text.toArray⟩, .slice kb0 k.names.length kb1, .slice kb2 k.kids.length kb3] (most - n) _ _ (by have := HN.out; have := nodesK_get HK.out; simp only [Cx.nodes] at *; omega) (KJ.out.below hbb) (by omega) (fitK_get F.out.2.2.2.2 HK.out)
          rw [show (((most - n : Nat) : Nat) : Int) = (most : Int) - (n : Int) by omega] at hc
          refine hc.mono ?_
          rintro e w5 ⟨rfl, hb5⟩
          have HB5 := Lib.hid (hbb.trans (hb5.mono hbb.size))
          obtain ⟨r, hr⟩ : ∃ r, r = min (Cx.nodes k) (most - n + 1) := ⟨_, rfl⟩
          rw [← hr]
          have hrl : r ≤ most - n + 1 := by omega
          have HR := Lib.hid hr
          clear hb5 hbb hc hr b0 b1 b2 b3 b4
          go_wp2
          go_roundg (ks.length - (i + 1))
          case measure => have := HQ.out; omega
          case rel =>
            refine ⟨i + 1, n + r, by go_num, by go_num, rfl, by omega, by omega, ?_, HB5⟩
            have := HR.out; have := HNN.out; have h2 := (nodesK_get HK.out).1
            rw [h2]; omega
      · have hik : i = ks.length := by omega
        subst hik
        go_wp2
        have hfin : min (Cx.nodes (.mk x is t ns ks)) (most + 1) = n := by
          have := HNN.out
          rw [List.take_length] at this
          simp only [Cx.nodes]; omega
        rw [hfin]
        go_ret
        exact ⟨rfl, hb.out⟩
end Go.Proofs.YtbdmepilmoomeaaGreatDoor
