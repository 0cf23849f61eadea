/- WALKS: more of package json's reader: blanks, words, digits. -/
import Derived.Test.YtbdmepilmoomeaaGreatDoorRd
namespace Go.Proofs.YtbdmepilmoomeaaGreatDoor
open Go.RowKit

theorem blank_ix (c : UInt8) : (Cx.isBlank c = true → 0 ≤ ix [32, 9, 10, 13] c) ∧ (Cx.isBlank c = false → ix [32, 9, 10, 13] c = -1) := by
  constructor
  · intro h
    have := Cx.isBlank_ne h
    exact (ix_pos (by simp; omega)).1
  · intro h
    refine ix_neg ?_
    simp only [Cx.isBlank, Bool.or_eq_false_iff, beq_eq_false_iff_ne] at h
    simp [h]

set_option maxHeartbeats 400000 in
theorem blanks_calls (s : ByteArray) (i : Nat) (m : Int) (b : Nat) (w : World) (h : Rd b s i m w) (hle : i ≤ s.size) (hs : s.size ≤ maxLen) :
    Calls Tryz.prog 25 #[.pointer (some ⟨b, 0, none⟩)] w fun e w' =>
      e = .returned (.int .u8 (Cx.peek s.data.toList (Cx.skipB s.data.toList i)).toNat) ∧ Rd b s (Cx.skipB s.data.toList i) m w' ∧ Mv b w w' := by
  have hs' := hs
  unfold maxLen at hs
  have H := Lib.hid h; clear h
  go_enter Tryz.func25, Tryz.ntmps25
  go_wp2
  go_loopg [] (s.size - i) (fun q wr => ∃ k : Nat, q = s.size - k ∧ i ≤ k ∧ k ≤ s.size ∧ Cx.skipB s.data.toList k = Cx.skipB s.data.toList i ∧ Rd b s k m wr ∧ Mv b w wr)
  case atStart => exact ⟨i, rfl, Nat.le_refl _, hle, rfl, H.out, Mv.refl _ _⟩
  case round =>
    obtain ⟨k, hq, hik, hks, hsk, hrd, hmv⟩ := hrel
    have h0 := hrd.c0; have h1 := hrd.c1; have hf := hrd.fr 1
    have HSK := Lib.hid hsk; have HRD := Lib.hid hrd; have HMV := Lib.hid hmv; have HQ := Lib.hid hq
    clear hsk hrd hmv hq
    rcases Nat.lt_or_ge k s.size with hlt | hge
    · by_cases hbl : Cx.isBlank s[k] = true
      · have hix := (blank_ix s[k]).1 hbl
        have HB := Lib.hid hbl; clear hbl
        go_wp2
        go_quiet ((go_at_call 46; exact Calls.quiet_of_same (indexByte_calls _ _ _)))
        go_wp2
        go_roundg (s.size - (k + 1))
        case measure => have := HQ.out; omega
        case rel =>
          have hstep := Cx.skipB_step (s := s.data.toList) (i := k) hlt (by rw [peek_size hlt]; exact HB.out)
          exact ⟨k + 1, rfl, by omega, by omega, by rw [← hstep]; exact HSK.out, (HRD.out.drewN _).set1 _, (HMV.out.drewN _).set (.inl rfl) _⟩
      · have hix : ¬ 0 ≤ ix [32, 9, 10, 13] s[k] := by rw [(blank_ix s[k]).2 (by simpa using hbl)]; omega
        have HB := Lib.hid hbl; clear hbl
        go_wp2
        go_quiet ((go_at_call 46; exact Calls.quiet_of_same (indexByte_calls _ _ _)))
        go_wp2_with (go_at_call 53; refine (peek_calls s k m b _ (HRD.out.drewN _) hs').mono ?_; rintro e w' ⟨rfl, n, rfl⟩)
        go_ret
        have hst : Cx.skipB s.data.toList i = k := by rw [← HSK.out]; exact Cx.skipB_stop (by rw [peek_size hlt]; simpa using HB.out)
        rw [hst]
        exact ⟨rfl, HRD.out.drewN _, HMV.out.drewN _⟩
    · have hd : decide (k < s.size) = false := by simp; omega
      go_wp2
      go_quiet (fail)
      go_wp2_with (go_at_call 53; refine (peek_calls s k m b _ (HRD.out.drewN _) hs').mono ?_; rintro e w' ⟨rfl, n, rfl⟩)
      go_ret
      have hst : Cx.skipB s.data.toList i = k := by rw [← HSK.out]; exact Cx.skipB_stop (by rw [Cx.peek_end hge]; rfl)
      rw [hst]
      exact ⟨rfl, HRD.out.drewN _, HMV.out.drewN _⟩

theorem word_calls (s : ByteArray) (i : Nat) (m : Int) (b : Nat) (W : ByteArray) (w : World) (h : Rd b s i m w) (hle : i ≤ s.size) (hs : s.size ≤ maxLen) (h0 : (0 : UInt8) ∉ W.data.toList) (hW : W.size ≤ maxLen) :
    Calls Tryz.prog 49 #[.pointer (some ⟨b, 0, none⟩), .string W] w (Gives (Cx.word s.data.toList W.data.toList i) (At b s m) b w) := by
  have hs' := hs
  unfold maxLen at hs hW
  have H := Lib.hid h; clear h
  have H0 := Lib.hid h0; clear h0
  go_enter Tryz.func49, Tryz.ntmps49
  go_wp2
  go_loopg [7] W.size (fun q x wr => ∃ k : Nat, x = .int .i64 k ∧ q = W.size - k ∧ k ≤ W.size ∧ i + k ≤ s.size ∧ Cx.word s.data.toList W.data.toList i = Cx.word s.data.toList (W.data.toList.drop k) (i + k) ∧ Rd b s (i + k : Nat) m wr ∧ Mv b w wr)
  case atStart => exact ⟨0, rfl, rfl, Nat.zero_le _, hle, rfl, H.out, Mv.refl _ _⟩
  case round =>
    obtain ⟨k, rfl, hq, hk, hik, hw, hrd, hmv⟩ := hrel
    have HW := Lib.hid hw; have HRD := Lib.hid hrd; have HMV := Lib.hid hmv; have HQ := Lib.hid hq
    clear hw hrd hmv hq
    rcases Nat.lt_or_ge k W.size with hlt | hge
    · have hdr : W.data.toList.drop k = W[k] :: W.data.toList.drop (k + 1) := by rw [List.drop_eq_getElem_cons (show k < W.data.toList.length from hlt)]; rfl
      have hne : W[k] ≠ 0 := fun e => H0.out (by rw [← e]; exact List.getElem_mem (show k < W.data.toList.length from hlt))
      have HD := Lib.hid hdr; have HN := Lib.hid hne; clear hdr hne
      by_cases hc : Cx.peek s.data.toList (i + k) = W[k]
      · have hlt2 : i + k < s.size := Cx.peek_lt (s := s.data.toList) (by rw [hc]; exact HN.out)
        have hc2 : W[k] = s[i + k] := by rw [← hc]; exact peek_size hlt2
        have HC := Lib.hid hc; have HC2 := Lib.hid hc2; clear hc hc2
        go_wp2_with fail
        rw [HC2.out]
        refine (take_ok s (i + k) m b _ HRD.out hlt2 hs').mono ?_
        rintro e w' ⟨rfl, g1, g2⟩
        have G1 := Lib.hid g1; have G2 := Lib.hid g2; clear g1 g2
        go_wp2
        go_roundg (W.size - (k + 1))
        case measure => have := HQ.out; omega
        case rel =>
          refine ⟨k + 1, by go_num, rfl, by omega, by omega, ?_, ?_, HMV.out.trans G2.out⟩
          · rw [HW.out, HD.out]
            conv => lhs; unfold Cx.word
            rw [if_pos HC.out]; rfl
          · have := G1.out; rw [show ((i + (k + 1) : Nat) : Int) = ((i + k : Nat) : Int) + 1 by omega]; exact this
      · have HC := Lib.hid hc; clear hc
        go_wp2_with fail
        refine (take_bad s (i + k) m b W[k] _ HRD.out HC.out hik hs').mono ?_
        rintro e w' ⟨rfl, g2⟩
        have hfin : Cx.word s.data.toList W.data.toList i = .error (7, i + k) := by
          rw [HW.out, HD.out]; unfold Cx.word; rw [if_neg HC.out]
        exact ⟨rfl, Gives.err hfin (HMV.out.trans g2)⟩
    · have hkk : k = W.size := by omega
      subst hkk
      go_wp2
      go_end0
      have hfin : Cx.word s.data.toList W.data.toList i = .ok (i + W.size) := by
        rw [HW.out, List.drop_of_length_le (by simp)]; rfl
      exact Gives.ok hfin HMV.out ⟨rfl, HRD.out⟩

theorem digit_calls (c : UInt8) (w : World) : Calls Tryz.prog 111 #[.int .u8 c.toNat] w fun e w' => e = .returned (.bool (Cx.isDig c)) ∧ w = w' := by
  by_cases h1 : 48 ≤ c.toNat
  · by_cases h2 : c.toNat ≤ 57
    · have hd : Cx.isDig c = true := by
        simp only [Cx.isDig, Bool.and_eq_true, decide_eq_true_eq, UInt8.le_iff_toNat_le]; exact ⟨h1, h2⟩
      rw [hd]
      clear hd
      have hq : decide ((c.toNat : Int) ≤ 57) = true := by simp; omega
      go_enter Tryz.func111, Tryz.ntmps111
      go_wp2
      go_ret
      exact ⟨rfl, rfl⟩
    · have hd : Cx.isDig c = false := by
        simp only [Cx.isDig, Bool.and_eq_false_iff, decide_eq_false_iff_not, UInt8.le_iff_toNat_le]; exact .inr h2
      rw [hd]
      clear hd
      have hq : decide ((c.toNat : Int) ≤ 57) = false := by simp; omega
      go_enter Tryz.func111, Tryz.ntmps111
      go_wp2
      go_ret
      exact ⟨rfl, rfl⟩
  · have hd : Cx.isDig c = false := by
      simp only [Cx.isDig, Bool.and_eq_false_iff, decide_eq_false_iff_not, UInt8.le_iff_toNat_le]; exact .inl h1
    rw [hd]
    clear hd
    go_enter Tryz.func111, Tryz.ntmps111
    go_wp2
    go_ret
    exact ⟨rfl, rfl⟩

theorem digits_calls (s : ByteArray) (i : Nat) (m : Int) (b : Nat) (w : World) (h : Rd b s i m w) (hle : i ≤ s.size) (hs : s.size ≤ maxLen) :
    Calls Tryz.prog 85 #[.pointer (some ⟨b, 0, none⟩)] w (Gives (Cx.digits s.data.toList i) (At b s m) b w) := by
  have hs' := hs
  unfold maxLen at hs
  have h1 := h.c1
  have H := Lib.hid h; clear h
  go_enter Tryz.func85, Tryz.ntmps85
  go_wp2
  clear h1
  go_loopg [] (s.size - i) (fun q wr => ∃ k : Nat, q = s.size - k ∧ i ≤ k ∧ k ≤ s.size ∧ Cx.skipD s.data.toList k = Cx.skipD s.data.toList i ∧ Rd b s k m wr ∧ Mv b w wr)
  case atStart => exact ⟨i, rfl, Nat.le_refl _, hle, rfl, H.out, Mv.refl _ _⟩
  case round =>
    obtain ⟨k, hq, hik, hks, hsk, hrd, hmv⟩ := hrel
    have h1 := hrd.c1; have hf := hrd.fr 1
    have HSK := Lib.hid hsk; have HRD := Lib.hid hrd; have HMV := Lib.hid hmv; have HQ := Lib.hid hq
    clear hsk hrd hmv hq
    by_cases hd : Cx.isDig (Cx.peek s.data.toList k) = true
    · have hlt : k < s.size := Cx.peek_lt (s := s.data.toList) (fun e => by rw [e] at hd; cases hd)
      have HD := Lib.hid hd; clear hd
      go_wp2_with fail
      refine (peek_calls s k m b _ HRD.out hs').mono ?_
      rintro e w' ⟨rfl, n, rfl⟩
      go_wp2_with fail
      refine (digit_calls _ _).mono ?_
      rintro e w' ⟨rfl, rfl⟩
      rw [HD.out]
      go_wp2
      go_roundg (s.size - (k + 1))
      case measure => have := HQ.out; omega
      case rel =>
        have hstep := Cx.skipD_step (s := s.data.toList) (i := k) hlt HD.out
        exact ⟨k + 1, rfl, by omega, by omega, by rw [← hstep]; exact HSK.out, (HRD.out.drewN _).set1 _, (HMV.out.drewN _).set (.inl rfl) _⟩
    · have hd' : Cx.isDig (Cx.peek s.data.toList k) = false := by simpa using hd
      have HD := Lib.hid hd'; clear hd hd'
      have hst : Cx.skipD s.data.toList i = k := by rw [← HSK.out]; exact Cx.skipD_stop HD.out
      have HST := Lib.hid hst; clear hst
      go_wp2_with fail
      refine (peek_calls s k m b _ HRD.out hs').mono ?_
      rintro e w' ⟨rfl, n, rfl⟩
      go_wp2_with fail
      refine (digit_calls _ _).mono ?_
      rintro e w' ⟨rfl, rfl⟩
      rw [HD.out]
      by_cases hki : k = i
      · subst hki
        go_wp2_with (go_at_call 26; refine (give_calls _ _ _ _).mono ?_; rintro e w' ⟨rfl, rfl⟩)
        have hfin : Cx.digits s.data.toList k = .error (7, k) := by unfold Cx.digits; rw [if_pos HST.out]
        exact ⟨rfl, Gives.err hfin (HMV.out.drewN _)⟩
      · have hne : ((k : Int) == (i : Int)) = false := by simp; omega
        go_wp2
        go_end0
        have hfin : Cx.digits s.data.toList i = .ok k := by unfold Cx.digits; rw [HST.out, if_neg hki]
        exact Gives.ok hfin (HMV.out.drewN _) ⟨rfl, HRD.out.drewN _⟩
end Go.Proofs.YtbdmepilmoomeaaGreatDoor
