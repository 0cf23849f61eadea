/- WALKS: Valid of codexref10. -/
import Derived.Test.YtejlddimokmgjaaGreatDoorYRg
import Derived.Test.YtejlddimokmgjaaGreatDoorYRb
namespace Go.Proofs.YtejlddimokmgjaaGreatDoor
open Go.RowKit

set_option maxRecDepth 100000 in
set_option maxHeartbeats 2000000 in
theorem valid10_calls (s : ByteArray) (w : World) (hs : s.size ≤ maxLen) :
    Calls Tryz.prog 29 #[.string s] w fun e w' => e = .returned (.bool (Cx.valid s.data.toList)) ∧ Below w.heap.size w w' := by
  obtain ⟨V, hV⟩ : ∃ V, V = Cx.valid s.data.toList := ⟨_, rfl⟩
  rw [← hV]
  have HV := Lib.hid hV
  have HS := Lib.hid hs
  clear hV
  unfold maxLen at hs
  go_enter Tryz.func29, Tryz.ntmps29
  go_wp2_with fail
  go_loopg [0] (s.size + 1) (fun q z wr => ∃ t : ByteArray, z = .string t ∧ t.size < q ∧ t.size ≤ s.size ∧ Hid (V = Cx.valid t.data.toList) ∧ Hid (Below w.heap.size w wr))
  case atStart => exact ⟨s, rfl, by omega, by omega, HV, Lib.hid (Below.refl _ _)⟩
  case round =>
    obtain ⟨t, rfl, hq, hts, HT, HB⟩ := hrel
    by_cases h0 : t.size = 0
    · have hnil : t.data.toList = [] := List.length_eq_zero_iff.1 h0
      have hv : V = true := by rw [HT.out, hnil]; rfl
      have HVT := Lib.hid hv
      have h0I : ¬ (0 : Int) < (t.size : Int) := by omega
      clear hv hnil
      go_wp2_with fail
      go_ret
      rw [HVT.out]
      exact ⟨rfl, HB.out⟩
    · have h0I : (0 : Int) < (t.size : Int) := by omega
      have hne : t.data.toList ≠ [] := fun h => h0 (by have := congrArg List.length h; simpa using this)
      have hvc := Cx.valid_cons hne
      have hrl := Cx.runeLen_le t.data.toList
      have hrl2 : Cx.runeLen t.data.toList ≤ t.size := hrl.1
      have HNE := Lib.hid hne
      have HTL : Hid (t.size ≤ maxLen) := Lib.hid (Nat.le_trans hts HS.out)
      obtain ⟨n, hn⟩ : ∃ n, n = Cx.runeLen t.data.toList := ⟨_, rfl⟩
      rw [← hn] at hvc hrl2
      have HVC := Lib.hid (HT.out.trans hvc); have HN := Lib.hid hn
      clear hvc hrl hne hn h0
      by_cases hz : n = 0
      · subst hz
        have hv : V = false := by rw [HVC.out]; rfl
        have HVF := Lib.hid hv
        clear hv
        go_wp2_with fail
        refine (rune10_bad t _ HTL.out HN.out.symm HNE.out).mono ?_
        rintro e w3 ⟨rfl, hb⟩
        have HB3 := Lib.hid (HB.out.trans (hb.mono HB.out.size))
        clear hb
        go_wp2_with fail
        go_ret
        rw [HVF.out]
        exact ⟨rfl, HB3.out⟩
      · have hv : V = Cx.valid (t.extract n t.size).data.toList := by
          rw [HVC.out, decide_eq_true hz, Bool.true_and, extract_list]
          simp only
          rw [List.take_of_length_le (by simp)]
        have hes : (t.extract n t.size).size = t.size - n := by
          rw [extract_list]; show (List.toArray _).size = _
          rw [List.size_toArray, List.length_take, List.length_drop]
          show min (t.size - n) (t.size - n) = _
          omega
        have HVX := Lib.hid hv
        have hpos : 0 < n := Nat.pos_of_ne_zero hz
        clear hv hz
        go_wp2_with fail
        refine (rune10_ok t _ HTL.out (by rw [← HN.out]; omega)).mono ?_
        rintro e w3 ⟨v, hv0, rfl, hb⟩
        rw [← HN.out]
        have HB3 := Lib.hid (HB.out.trans (hb.mono HB.out.size))
        clear hb
        go_wp2_with fail
        go_roundg (gk - 1)
        case measure => omega
        case rel => exact ⟨_, rfl, by omega, by omega, HVX, HB3⟩
end Go.Proofs.YtejlddimokmgjaaGreatDoor
