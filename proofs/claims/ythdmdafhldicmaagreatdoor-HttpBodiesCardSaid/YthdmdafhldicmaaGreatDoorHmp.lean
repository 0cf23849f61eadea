/- WALKS: a method and a path of raw texts. -/
import Derived.Test.YthdmdafhldicmaaGreatDoorHby
import Derived.Test.YthdmdafhldicmaaGreatDoorHl
import Derived.Test.YthdmdafhldicmaaGreatDoorHxMp
import Derived.Test.YthdmdafhldicmaaGreatDoorHbld
import Derived.Test.YthdmdafhldicmaaGreatDoorHc
namespace Go.Proofs.YthdmdafhldicmaaGreatDoor
open Go.RowKit

set_option maxRecDepth 100000 in
set_option maxHeartbeats 2000000 in
theorem method_calls (s : Hx.Bytes) (w : World) :
    Calls Tryz.prog 13 #[.string ⟨s.toArray⟩] w fun e w' => e = .returned (.string ⟨(Hx.methodOf s).toArray⟩) ∧ Below w.heap.size w w' := by
  have hz1 := size_list s
  obtain ⟨i0, hi, hz0, hzz1, hz2⟩ := info_parts infoU8
  obtain ⟨R, hR⟩ : ∃ R, R = Hx.methodOf s := ⟨_, rfl⟩
  rw [← hR]
  have HR := Lib.hid hR
  have HI := Lib.hid hi; have HZ := Lib.hid (And.intro hz0 (And.intro hzz1 hz2))
  clear hR hi hz0 hzz1 hz2
  have OB0 := Lib.hid (OB.nil w.heap.size w)
  have B0 := Lib.hid (Below.refl w.heap.size w)
  go_enter Tryz.func13, Tryz.ntmps13
  go_wp2_with fail
  go_loopg [3, 4] (10 + 1) (fun q a i wr => ∃ k : Nat, i = .int .i64 k ∧ k ≤ s.length ∧ k ≤ 10 ∧ 10 < k + q ∧ Hid (OB w.heap.size a ((s.take k).map Hx.mB) wr) ∧ Hid (Below w.heap.size w wr))
  case atStart => exact ⟨0, rfl, Nat.zero_le _, Nat.zero_le _, by omega, OB0, B0⟩
  case round =>
    clear OB0 B0
    obtain ⟨k, rfl, hk, hkc, hq, OBK, HB⟩ := hrel
    obtain ⟨q, rfl⟩ : ∃ q, gk = q + 1 := ⟨gk - 1, by omega⟩
    by_cases hlt : k < s.length ∧ k < 10
    · obtain ⟨hlt1, hlt2⟩ := hlt
      obtain ⟨c, hc⟩ : ∃ c, s[k]? = some c := ⟨s[k], by simp [hlt1]⟩
      have hci : (((⟨s.toArray⟩ : ByteArray)[k]'(by rw [hz1]; exact hlt1)).toNat : Int) = (c.toNat : Int) := by
        have h1 := List.getElem?_eq_getElem hlt1
        rw [h1] at hc
        injection hc with hc
        rw [← hc]; rfl
      obtain ⟨x, hx⟩ : ∃ x : Nat, x = c.toNat := ⟨_, rfl⟩
      rw [← hx] at hci
      have hx255 : x ≤ 255 := by have := c.toNat_lt; omega
      obtain ⟨y, hy⟩ : ∃ y : Nat, y = (Hx.mB c).toNat := ⟨_, rfl⟩
      have hyv : y = 65 + x % 26 := by rw [hy, Hx.mB_nat, hx]
      have hy2 : (65 : Int) + (x : Int) % 26 = (y : Int) := by omega
      have htk : s.take (k + 1) = s.take k ++ [c] := by rw [List.take_add_one, hc]; rfl
      have hltI : (k : Int) < (s.length : Int) := by omega
      have hltJ : (k : Int) < 10 := by omega
      have hlen : ((s.take k).map Hx.mB).length = k + 0 := by simp only [List.length_map, List.length_take]; omega
      have HTK := Lib.hid htk; have HY := Lib.hid hy; have HLEN := Lib.hid hlen
      have hi := HI.out
      obtain ⟨hz0, hzz1, hz2⟩ := HZ.out
      have hBw := HB.out.size
      clear htk hc hx hy hyv hlen hk
      go_wp2_with (at_builtin; refine wpList_append_own _ rfl _ _ 50 rfl w.heap.size 5 i0 (.int .u8 0) 1 1 Tryz.underlying50 hi hz0 hzz1 hz2 rfl (by decide) _ _ _ rfl (World.ownsRow.alloc OBK.out _) ⟨wr.heap.size, 0, none⟩ 1 1 [.int .u8 y] rfl rfl ?c1 ?c2 ?c3 ?c4 ?c5 ?_)
      case c1 =>
        intro j u hj
        match j, hj with
        | 0, hj => simp at hj; subst hj; simp [Addr.add]
      case c2 => first | rfl | (intro u hu; simp at hu; subst hu; rfl)
      case c3 => have := HLEN.out; unfold maxLen; omega
      case c4 => have := HLEN.out; omega
      case c5 => simp; omega
      intro v' w4 hown hgrow _
      have O4 : Hid (OB w.heap.size v' ((s.take (k + 1)).map Hx.mB) w4) := Lib.hid (by
        rw [HTK.out]
        unfold OB
        rw [HY.out] at hown
        simpa [Lib.byteCells] using hown)
      have B4 : Hid (Below w.heap.size w w4) := Lib.hid ((HB.out.alloc HB.out.size _).grown hgrow (by simp; omega) (fun j hj => OB.own OBK.out j hj))
      clear hown hgrow hi hz0 hzz1 hz2 OBK HB hltI hltJ hy2 hci
      go_wp2_with fail
      go_roundg q
      case measure => omega
      case rel => exact ⟨k + 1, by go_num, by omega, by omega, by omega, O4, B4⟩
    · have hex : ¬ (k : Int) < (s.length : Int) ∨ ((k : Int) < (s.length : Int) ∧ ¬ (k : Int) < 10) := by omega
      have hkk : s.take k = s.take 10 := by
        rcases Nat.lt_or_ge k 10 with h | h
        · rw [List.take_of_length_le (by omega), List.take_of_length_le (by omega)]
        · rw [show k = 10 by omega]
      rw [hkk] at OBK
      clear hkk hlt
      by_cases hs0 : s = []
      · have hr : R = [71, 69, 84] := by rw [HR.out]; unfold Hx.methodOf; rw [if_pos hs0]
        have HRE := Lib.hid hr
        have hl0 : s.length = 0 := by rw [hs0]; rfl
        have hx : ¬ (k : Int) < (s.length : Int) := by omega
        have ob : OB w.heap.size u3 [] wr := by have := OBK.out; rw [hs0] at this; exact this
        obtain ⟨a, c, rfl⟩ := OB.len0 ob
        clear hex hr hs0 hl0 ob OBK
        go_wp2_with fail
        go_ret
        exact ⟨ret_str (by rw [HRE.out]), HB.out⟩
      · have hr : R = (s.take 10).map Hx.mB := by rw [HR.out]; unfold Hx.methodOf; rw [if_neg hs0]
        have HRE := Lib.hid hr
        have hcv := OBK.out.conv
        rw [← hr] at hcv
        have hn0 : 0 < s.length := List.length_pos_iff.2 hs0
        have hlen : ((s.take 10).map Hx.mB).length ≠ 0 := by rw [List.length_map, List.length_take]; omega
        rcases OBK.out.forms with ⟨_, h0⟩ | ⟨g, cp, rfl, _, _⟩
        · rw [h0] at hlen; exact absurd rfl hlen
        obtain ⟨L, hL⟩ : ∃ L, L = ((s.take 10).map Hx.mB).length := ⟨_, rfl⟩
        rw [← hL] at hlen hcv ⊢
        have hL0 : ((L : Int) == 0) = false := by rw [beq_eq_false_iff_ne]; omega
        clear hr hs0 hlen OBK hL
        rcases hex with h1 | ⟨h1, h2⟩
        all_goals
          go_wp2_with fail
          go_ret
          exact ⟨rfl, HB.out⟩

set_option maxRecDepth 100000 in
set_option maxHeartbeats 2000000 in
theorem path_calls (s : Hx.Bytes) (w : World) :
    Calls Tryz.prog 14 #[.string ⟨s.toArray⟩] w fun e w' => e = .returned (.string ⟨(Hx.pathOf s).toArray⟩) ∧ Below w.heap.size w w' := by
  have hz1 := size_list s
  obtain ⟨i0, hi, hz0, hzz1, hz2⟩ := info_parts infoU8
  obtain ⟨R, hR⟩ : ∃ R, R = Hx.pathOf s := ⟨_, rfl⟩
  rw [← hR]
  have HR := Lib.hid hR
  have HI := Lib.hid hi; have HZ := Lib.hid (And.intro hz0 (And.intro hzz1 hz2))
  clear hR hi hz0 hzz1 hz2
  have ob0 : OB w.heap.size (.slice (some ⟨w.heap.size, 0, none⟩) 1 1) [47] (w.alloc (.cells #[.int .u8 47] 5)) := World.ownsRow_lit w #[.int .u8 47] 1 (Nat.le_refl _) (by unfold maxLen; decide) rfl
  have OB0 := Lib.hid ob0
  have B0 := Lib.hid ((Below.refl w.heap.size w).alloc (Nat.le_refl _) (.cells #[.int .u8 47] 5))
  clear ob0
  go_enter Tryz.func14, Tryz.ntmps14
  go_wp2_with fail
  go_loopg [3, 4] (300 + 1) (fun q a i wr => ∃ k : Nat, i = .int .i64 k ∧ k ≤ s.length ∧ k ≤ 300 ∧ 300 < k + q ∧ Hid (OB w.heap.size a (47 :: (s.take k).map Hx.pB) wr) ∧ Hid (Below w.heap.size w wr))
  case atStart => exact ⟨0, rfl, Nat.zero_le _, Nat.zero_le _, by omega, OB0, B0⟩
  case round =>
    clear OB0 B0
    obtain ⟨k, rfl, hk, hkc, hq, OBK, HB⟩ := hrel
    obtain ⟨q, rfl⟩ : ∃ q, gk = q + 1 := ⟨gk - 1, by omega⟩
    by_cases hlt : k < s.length ∧ k < 300
    · obtain ⟨hlt1, hlt2⟩ := hlt
      obtain ⟨c, hc⟩ : ∃ c, s[k]? = some c := ⟨s[k], by simp [hlt1]⟩
      have hci : (((⟨s.toArray⟩ : ByteArray)[k]'(by rw [hz1]; exact hlt1)).toNat : Int) = (c.toNat : Int) := by
        have h1 := List.getElem?_eq_getElem hlt1
        rw [h1] at hc
        injection hc with hc
        rw [← hc]; rfl
      obtain ⟨x, hx⟩ : ∃ x : Nat, x = c.toNat := ⟨_, rfl⟩
      rw [← hx] at hci
      have hx255 : x ≤ 255 := by have := c.toNat_lt; omega
      obtain ⟨y, hy⟩ : ∃ y : Nat, y = (Hx.pB c).toNat := ⟨_, rfl⟩
      have hyv : y = 33 + x % 94 := by rw [hy, Hx.pB_nat, hx]
      have hy2 : (33 : Int) + (x : Int) % 94 = (y : Int) := by omega
      have htk : s.take (k + 1) = s.take k ++ [c] := by rw [List.take_add_one, hc]; rfl
      have hltI : (k : Int) < (s.length : Int) := by omega
      have hltJ : (k : Int) < 300 := by omega
      have hlen : (47 :: (s.take k).map Hx.pB).length = k + 1 := by simp only [List.length_cons, List.length_map, List.length_take]; omega
      have HTK := Lib.hid htk; have HY := Lib.hid hy; have HLEN := Lib.hid hlen
      have hi := HI.out
      obtain ⟨hz0, hzz1, hz2⟩ := HZ.out
      have hBw := HB.out.size
      clear htk hc hx hy hyv hlen hk
      go_wp2_with (at_builtin; refine wpList_append_own _ rfl _ _ 50 rfl w.heap.size 5 i0 (.int .u8 0) 1 1 Tryz.underlying50 hi hz0 hzz1 hz2 rfl (by decide) _ _ _ rfl (World.ownsRow.alloc OBK.out _) ⟨wr.heap.size, 0, none⟩ 1 1 [.int .u8 y] rfl rfl ?c1 ?c2 ?c3 ?c4 ?c5 ?_)
      case c1 =>
        intro j u hj
        match j, hj with
        | 0, hj => simp at hj; subst hj; simp [Addr.add]
      case c2 => first | rfl | (intro u hu; simp at hu; subst hu; rfl)
      case c3 => have := HLEN.out; unfold maxLen; omega
      case c4 => have := HLEN.out; omega
      case c5 => simp; omega
      intro v' w4 hown hgrow _
      have O4 : Hid (OB w.heap.size v' (47 :: (s.take (k + 1)).map Hx.pB) w4) := Lib.hid (by
        rw [HTK.out]
        unfold OB
        rw [HY.out] at hown
        simpa [Lib.byteCells] using hown)
      have B4 : Hid (Below w.heap.size w w4) := Lib.hid ((HB.out.alloc HB.out.size _).grown hgrow (by simp; omega) (fun j hj => OB.own OBK.out j hj))
      clear hown hgrow hi hz0 hzz1 hz2 OBK HB hltI hltJ hy2 hci
      go_wp2_with fail
      go_roundg q
      case measure => omega
      case rel => exact ⟨k + 1, by go_num, by omega, by omega, by omega, O4, B4⟩
    · have hex : ¬ (k : Int) < (s.length : Int) ∨ ((k : Int) < (s.length : Int) ∧ ¬ (k : Int) < 300) := by omega
      have hkk : s.take k = s.take 300 := by
        rcases Nat.lt_or_ge k 300 with h | h
        · rw [List.take_of_length_le (by omega), List.take_of_length_le (by omega)]
        · rw [show k = 300 by omega]
      rw [hkk] at OBK
      have hr : R = 47 :: (s.take 300).map Hx.pB := HR.out
      have hcv := OBK.out.conv
      rw [← hr] at hcv
      clear hkk hlt hr
      rcases hex with h1 | ⟨h1, h2⟩
      all_goals
        go_wp2_with fail
        go_ret
        exact ⟨rfl, HB.out⟩
end Go.Proofs.YthdmdafhldicmaaGreatDoor
