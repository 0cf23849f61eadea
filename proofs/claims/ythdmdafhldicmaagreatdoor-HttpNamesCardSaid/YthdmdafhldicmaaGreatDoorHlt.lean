/- WALKS: letters of the statements. -/
import Derived.Test.YthdmdafhldicmaaGreatDoorHc
import Derived.Test.YthdmdafhldicmaaGreatDoorHxNm
import Derived.Test.YthdmdafhldicmaaGreatDoorHn
namespace Go.Proofs.YthdmdafhldicmaaGreatDoor
open Go.RowKit

theorem put_step {n s : List UInt8} {k : Nat} {c x : UInt8} (hn : n.length = k) (hc : s[k]? = some c) : (n ++ s.drop k).set k x = (n ++ [x]) ++ s.drop (k + 1) := by
  obtain ⟨hlt, he⟩ := List.getElem?_eq_some_iff.1 hc
  rw [List.drop_eq_getElem_cons hlt, List.set_append_right _ _ (by omega), hn, Nat.sub_self, List.set_cons_zero]
  simp
theorem keep_step {n s : List UInt8} {k : Nat} {c : UInt8} (hc : s[k]? = some c) : n ++ s.drop k = (n ++ [c]) ++ s.drop (k + 1) := by
  obtain ⟨hlt, he⟩ := List.getElem?_eq_some_iff.1 hc
  rw [List.drop_eq_getElem_cons hlt, he]
  simp
theorem put_get {n s : List UInt8} {k : Nat} {c : UInt8} (hn : n.length = k) (hc : s[k]? = some c) : (n ++ s.drop k).getD k 0 = c := by
  obtain ⟨hlt, he⟩ := List.getElem?_eq_some_iff.1 hc
  rw [List.drop_eq_getElem_cons hlt, he, List.getD, List.getElem?_append_right (by omega), hn, Nat.sub_self]
  rfl
/-- A beginning whose letters are small or capital ones. -/
def NmP (n s : List UInt8) (k : Nat) : Prop := n.length = k ∧ Hx.lower n = s.take k ∧ n.all Hx.tokened = true
theorem NmP.same {n s : List UInt8} {k : Nat} {c x : UInt8} (h : NmP n s k) (hc : s[k]? = some c) (hl : Hx.lowerB x = c) (ht : Hx.tokened x = true) : NmP (n ++ [x]) s (k + 1) := by
  obtain ⟨h1, h2, h3⟩ := h
  refine ⟨by simp [h1], ?_, by simp [h3, ht]⟩
  unfold Hx.lower at h2 ⊢
  rw [List.map_append, h2, List.take_add_one, hc]
  simp [hl]

set_option maxRecDepth 100000 in
set_option maxHeartbeats 2000000 in
theorem letters_calls (t : List UInt8) (bits : Int) (w : World) (hp : Hx.Plain t) (h0 : t ≠ []) (hl : t.length ≤ 1000) :
    Calls Tryz.prog 17 #[.string ⟨t.toArray⟩, .int .i64 bits] w fun e w' => ∃ n, e = .returned (.string ⟨n.toArray⟩) ∧ Hx.Nm n t ∧ Below w.heap.size w w' := by
  have hts := size_list t
  have hcv := Lib.run_convert_string_bytes (P := Tryz.prog) w 9 50 5 ⟨t.toArray⟩ (u := .string) Tryz.underlying9 Tryz.underlying50 Tryz.underlying5
  rw [hts] at hcv
  have L0 := Lib.hid (LW.first w t)
  obtain ⟨W1, hW1⟩ : ∃ W1, W1 = Lib.bytesWorld w 5 ⟨t.toArray⟩ := ⟨_, rfl⟩
  rw [← hW1] at hcv L0
  obtain ⟨cp, hcp⟩ : ∃ cp, cp = grownCap w t.length 0 5 := ⟨_, rfl⟩
  rw [← hcp] at hcv
  have HP := Lib.hid hp; have H0 := Lib.hid h0
  clear hW1 hcp hp h0
  go_enter Tryz.func17, Tryz.ntmps17
  go_wp2_with fail
  go_loopg [6] (t.length) (fun q z wr => ∃ (i : Nat) (n : List UInt8), z = .int .i64 i ∧ q = t.length - i ∧ i ≤ t.length ∧ Hid (NmP n t i) ∧ Hid (LW w (n ++ t.drop i) wr))
  case atStart => exact ⟨0, [], rfl, rfl, Nat.zero_le _, Lib.hid ⟨rfl, rfl, rfl⟩, Lib.hid (by simpa using L0.out)⟩
  case round =>
    clear hcv L0
    obtain ⟨i, n, rfl, hq, hi, HN, HL⟩ := hrel
    have HQ := Lib.hid hq
    clear hq
    rcases Nat.lt_or_ge i t.length with hlt | hge
    · obtain ⟨c, hc⟩ : ∃ c, t[i]? = some c := ⟨t[i], by simp [hlt]⟩
      have hltI : (i : Int) < (t.length : Int) := by omega
      have hlen : (n ++ t.drop i).length = t.length := by rw [List.length_append, HN.out.1, List.length_drop]; omega
      have b0 := HL.out.1 i (by rw [hlen]; exact hlt)
      have f0 := HL.out.2.1 i (by rw [hlen]; exact hlt)
      rw [put_get HN.out.1 hc] at b0
      have hpc : Hx.tokened c = true ∧ Hx.capital c = false := by
        have := List.all_eq_true.1 HP.out c (List.mem_of_getElem? hc)
        rw [Bool.and_eq_true, Bool.not_eq_true'] at this
        exact this
      have hsame : Hid (NmP (n ++ [c]) t (i + 1)) := Lib.hid (HN.out.same hc (by unfold Hx.lowerB; rw [hpc.2]; rfl) hpc.1)
      have hlw : Hid (LW w ((n ++ [c]) ++ t.drop (i + 1)) wr) := Lib.hid (by rw [← keep_step hc]; exact HL.out)
      have hc255 := c.toNat_lt
      obtain ⟨x, hx⟩ : ∃ x : Nat, x = c.toNat := ⟨_, rfl⟩
      rw [← hx] at b0 hc255
      by_cases hlow : 97 ≤ x ∧ x ≤ 122
      · obtain ⟨l1, l2⟩ := hlow
        have i1 : (97 : Int) ≤ x := by omega
        have i2 : (x : Int) ≤ 122 := by omega
        have hlo : Hx.isLow c = true := by
          unfold Hx.isLow
          simp only [Bool.and_eq_true, decide_eq_true_eq, UInt8.le_iff_toNat_le, UInt8.reduceToNat]
          omega
        obtain ⟨o1, o2, o3⟩ := Hx.low_one hlo
        obtain ⟨d, hd⟩ : ∃ d, d = c - 32 := ⟨_, rfl⟩
        rw [← hd] at o1 o2 o3
        have hdn : d.toNat = x - 32 := by
          rw [hd, UInt8.toNat_sub_of_le _ _ (by rw [UInt8.le_iff_toNat_le]; show 32 ≤ c.toNat; omega), hx]; rfl
        have hsub : (x : Int) - 32 = (d.toNat : Int) := by omega
        have hput : Hid (NmP (n ++ [d]) t (i + 1)) := Lib.hid (HN.out.same hc (by unfold Hx.lowerB; rw [o1]; exact o3) o2)
        have hlw2 : Hid (LW w ((n ++ [d]) ++ t.drop (i + 1)) (wr.setCell ⟨w.heap.size, i, none⟩ (.int .u8 d.toNat))) := Lib.hid (by
          have := HL.out.set i d (by rw [hlen]; exact hlt)
          rw [put_step HN.out.1 hc] at this
          exact this)
        clear hc hpc hx hlo o1 o2 o3 hd hdn hlen
        go_wp2_with fail
        · go_roundg (t.length - (i + 1))
          case measure => have := HQ.out; omega
          case rel => exact ⟨i + 1, n ++ [d], by go_num, rfl, by omega, hput, hlw2⟩
        · go_roundg (t.length - (i + 1))
          case measure => have := HQ.out; omega
          case rel => exact ⟨i + 1, n ++ [c], by go_num, rfl, by omega, hsame, hlw⟩
      · have hno : ¬ (97 : Int) ≤ x ∨ ((97 : Int) ≤ x ∧ ¬ (x : Int) ≤ 122) := by omega
        clear hc hpc hx hlow hlen
        rcases hno with i1 | ⟨i1, i2⟩
        all_goals
          go_wp2_with fail
          go_roundg (t.length - (i + 1))
          case measure => have := HQ.out; omega
          case rel => exact ⟨i + 1, n ++ [c], by go_num, rfl, by omega, hsame, hlw⟩
    · have hik : i = t.length := by omega
      subst hik
      have hltI : ¬ (t.length : Int) < (t.length : Int) := by omega
      obtain ⟨n1, n2, n3⟩ := HN.out
      rw [List.take_length] at n2
      have hfin : LW w n wr := by
        have := HL.out
        rw [List.drop_length, List.append_nil] at this
        exact this
      have hb := hfin.bytes
      have hcv := Lib.run_convert_whole (P := Tryz.prog) wr 50 5 9 Tryz.underlying50 Tryz.underlying5 Tryz.underlying9 w.heap.size 0 ⟨n.toArray⟩ hb cp
      rw [size_list, n1] at hcv
      have hnm : Hx.Nm n t := ⟨n2, n3, n1, fun e => H0.out (by rw [e] at n1; exact List.length_eq_zero_iff.1 n1.symm)⟩
      have HNM := Lib.hid hnm; have HFI := Lib.hid hfin
      clear hfin hb hnm n1 n2 n3 HL HN
      go_wp2_with fail
      go_ret
      exact ⟨n, rfl, HNM.out, HFI.out.2.2⟩
end Go.Proofs.YthdmdafhldicmaaGreatDoor
