/- WALKS: the predicates on bytes of package http. -/
import Derived.Test.YthdmdafhldicmaaGreatDoorHBase
import Derived.Test.YthdmdafhldicmaaGreatDoorShelf
import Derived.Test.YthdmdafhldicmaaGreatDoorHxModel
namespace Go.Proofs.YthdmdafhldicmaaGreatDoor
open Go.RowKit

theorem indexByte_calls (s : ByteArray) (c : UInt8) (w : World) :
    Calls Tryz.prog 96 #[.string s, .int .u8 c.toNat] w fun e w' => e = .returned (.int .i64 (ix s.data.toList c)) ∧ w' = w := by
  have h := Tryz.strings_IndexByte s c.toNat w
  simpa [ix] using h

theorem hcapital_calls (c : UInt8) (w : World) : Calls Tryz.prog 53 #[.int .u8 c.toNat] w fun e w' => e = .returned (.bool (Hx.capital c)) ∧ w' = w := by
  have hm : Hx.capital c = (decide (65 ≤ c.toNat) && decide (c.toNat ≤ 90)) := by
    rw [Bool.eq_iff_iff]
    simp only [Hx.capital, Bool.and_eq_true, decide_eq_true_iff, UInt8.le_iff_toNat_le]
    exact Iff.rfl
  by_cases h1 : 65 ≤ c.toNat
  · by_cases h2 : c.toNat ≤ 90
    · have hd : Hx.capital c = true := by rw [hm]; simp [h1, h2]
      have hq : decide ((c.toNat : Int) ≤ 90) = true := by simp; omega
      rw [hd]
      clear hd
      go_enter Tryz.func53, Tryz.ntmps53
      go_wp2_with fail
      go_ret
      exact ⟨rfl, rfl⟩
    · have hd : Hx.capital c = false := by rw [hm]; simp [h2]
      have hq : decide ((c.toNat : Int) ≤ 90) = false := by simp; omega
      rw [hd]
      clear hd
      go_enter Tryz.func53, Tryz.ntmps53
      go_wp2_with fail
      go_ret
      exact ⟨rfl, rfl⟩
  · have hd : Hx.capital c = false := by rw [hm]; simp [h1]
    rw [hd]
    clear hd
    go_enter Tryz.func53, Tryz.ntmps53
    go_wp2_with fail
    go_ret
    exact ⟨rfl, rfl⟩

theorem hdigit_calls (c : UInt8) (w : World) : Calls Tryz.prog 59 #[.int .u8 c.toNat] w fun e w' => e = .returned (.bool (Hx.digit c)) ∧ w' = w := by
  have hm : Hx.digit c = (decide (48 ≤ c.toNat) && decide (c.toNat ≤ 57)) := by
    rw [Bool.eq_iff_iff]
    simp only [Hx.digit, Bool.and_eq_true, decide_eq_true_iff, UInt8.le_iff_toNat_le]
    exact Iff.rfl
  by_cases h1 : 48 ≤ c.toNat
  · by_cases h2 : c.toNat ≤ 57
    · have hd : Hx.digit c = true := by rw [hm]; simp [h1, h2]
      have hq : decide ((c.toNat : Int) ≤ 57) = true := by simp; omega
      rw [hd]
      clear hd
      go_enter Tryz.func59, Tryz.ntmps59
      go_wp2_with fail
      go_ret
      exact ⟨rfl, rfl⟩
    · have hd : Hx.digit c = false := by rw [hm]; simp [h2]
      have hq : decide ((c.toNat : Int) ≤ 57) = false := by simp; omega
      rw [hd]
      clear hd
      go_enter Tryz.func59, Tryz.ntmps59
      go_wp2_with fail
      go_ret
      exact ⟨rfl, rfl⟩
  · have hd : Hx.digit c = false := by rw [hm]; simp [h1]
    rw [hd]
    clear hd
    go_enter Tryz.func59, Tryz.ntmps59
    go_wp2_with fail
    go_ret
    exact ⟨rfl, rfl⟩

theorem hvisible_calls (c : UInt8) (w : World) : Calls Tryz.prog 55 #[.int .u8 c.toNat] w fun e w' => e = .returned (.bool (Hx.visible c)) ∧ w' = w := by
  have hm : Hx.visible c = (decide (33 ≤ c.toNat) && decide (c.toNat ≤ 126)) := by
    rw [Bool.eq_iff_iff]
    simp only [Hx.visible, Bool.and_eq_true, decide_eq_true_iff, UInt8.le_iff_toNat_le, UInt8.lt_iff_toNat_lt]
    exact Iff.rfl
  by_cases h1 : 33 ≤ c.toNat
  · by_cases h2 : c.toNat ≤ 126
    · have hd : Hx.visible c = true := by rw [hm]; simp [h1, h2]
      have hq : decide ((c.toNat : Int) ≤ 126) = true := by simp; omega
      rw [hd]
      clear hd
      go_enter Tryz.func55, Tryz.ntmps55
      go_wp2_with fail
      go_ret
      exact ⟨rfl, rfl⟩
    · have hd : Hx.visible c = false := by rw [hm]; simp [h2]
      have hq : decide ((c.toNat : Int) ≤ 126) = false := by simp; omega
      rw [hd]
      clear hd
      go_enter Tryz.func55, Tryz.ntmps55
      go_wp2_with fail
      go_ret
      exact ⟨rfl, rfl⟩
  · have hd : Hx.visible c = false := by rw [hm]; simp [h1]
    rw [hd]
    clear hd
    go_enter Tryz.func55, Tryz.ntmps55
    go_wp2_with fail
    go_ret
    exact ⟨rfl, rfl⟩

theorem valued_eq (c : UInt8) : Hx.valued c = (Hx.visible c || decide (c.toNat = 32) || decide (c.toNat = 9) || decide (128 ≤ c.toNat)) := by
  unfold Hx.valued
  have e1 : (c == 32) = decide (c.toNat = 32) := by
    rw [Bool.eq_iff_iff, beq_iff_eq, decide_eq_true_iff, ← UInt8.toNat_inj]; rfl
  have e2 : (c == 9) = decide (c.toNat = 9) := by
    rw [Bool.eq_iff_iff, beq_iff_eq, decide_eq_true_iff, ← UInt8.toNat_inj]; rfl
  rw [e1, e2]
  simp only [UInt8.le_iff_toNat_le]; rfl

theorem hvalued_calls (c : UInt8) (w : World) : Calls Tryz.prog 80 #[.int .u8 c.toNat] w fun e w' => e = .returned (.bool (Hx.valued c)) ∧ w' = w := by
  obtain ⟨V, hV⟩ : ∃ V, V = Hx.valued c := ⟨_, rfl⟩
  rw [← hV]
  rw [valued_eq] at hV
  cases hv : Hx.visible c with
  | true =>
    have hr : V = true := by rw [hV, hv]; rfl
    subst hr
    have HV := Lib.hid hv
    clear hv hV
    go_enter Tryz.func80, Tryz.ntmps80
    go_wp2_with fail
    refine (hvisible_calls c _).mono ?_
    rintro e w' ⟨rfl, hw'⟩
    have hw' := hw'.symm
    subst hw'
    rw [HV.out]
    go_wp2_with fail
    go_ret
    exact ⟨rfl, rfl⟩
  | false =>
    rw [hv] at hV
    have HV := Lib.hid hv
    clear hv
    by_cases h1 : c.toNat = 32
    · have hr : V = true := by rw [hV]; simp [h1]
      have n1 : ((c.toNat : Int) == 32) = true := by rw [h1]; rfl
      subst hr
      clear hV h1
      go_enter Tryz.func80, Tryz.ntmps80
      go_wp2_with fail
      refine (hvisible_calls c _).mono ?_
      rintro e w' ⟨rfl, hw'⟩
      have hw' := hw'.symm
      subst hw'
      rw [HV.out]
      go_wp2_with fail
      go_ret
      exact ⟨rfl, rfl⟩
    have n1 : ((c.toNat : Int) == 32) = false := by rw [beq_eq_false_iff_ne]; omega
    by_cases h2 : c.toNat = 9
    · have hr : V = true := by rw [hV]; simp [h2]
      have n2 : ((c.toNat : Int) == 9) = true := by rw [h2]; rfl
      subst hr
      clear hV h1 h2
      go_enter Tryz.func80, Tryz.ntmps80
      go_wp2_with fail
      refine (hvisible_calls c _).mono ?_
      rintro e w' ⟨rfl, hw'⟩
      have hw' := hw'.symm
      subst hw'
      rw [HV.out]
      go_wp2_with fail
      go_ret
      exact ⟨rfl, rfl⟩
    have n2 : ((c.toNat : Int) == 9) = false := by rw [beq_eq_false_iff_ne]; omega
    by_cases h3 : 128 ≤ c.toNat
    · have hr : V = true := by rw [hV]; simp [h3]
      have n3 : decide ((128 : Int) ≤ (c.toNat : Int)) = true := by simp; omega
      subst hr
      clear hV h1 h2 h3
      go_enter Tryz.func80, Tryz.ntmps80
      go_wp2_with fail
      refine (hvisible_calls c _).mono ?_
      rintro e w' ⟨rfl, hw'⟩
      have hw' := hw'.symm
      subst hw'
      rw [HV.out]
      go_wp2_with fail
      go_ret
      exact ⟨rfl, rfl⟩
    · have hr : V = false := by rw [hV]; simp [h1, h2, h3]
      have n3 : decide ((128 : Int) ≤ (c.toNat : Int)) = false := by simp; omega
      subst hr
      clear hV h1 h2 h3
      go_enter Tryz.func80, Tryz.ntmps80
      go_wp2_with fail
      refine (hvisible_calls c _).mono ?_
      rintro e w' ⟨rfl, hw'⟩
      have hw' := hw'.symm
      subst hw'
      rw [HV.out]
      go_wp2_with fail
      go_ret
      exact ⟨rfl, rfl⟩

/-- A byte without the bit of small letters, under a name that a walk does not open. -/
def uppv (c : Int) : Int := bits .andNot .u8 c 32
theorem uppv_all : ∀ k : Fin 256, ∃ d : Fin 256, bits .andNot .u8 k.val 32 = (d.val : Int) ∧ ((65 ≤ d.val ∧ d.val ≤ 90 ∧ 90 < k.val) ↔ (97 ≤ k.val ∧ k.val ≤ 122)) := by decide +kernel
theorem uppv_byte (c : UInt8) : ∃ d : UInt8, bits .andNot .u8 (c.toNat : Int) 32 = (d.toNat : Int) ∧ ((65 ≤ d.toNat ∧ d.toNat ≤ 90 ∧ 90 < c.toNat) ↔ (97 ≤ c.toNat ∧ c.toNat ≤ 122)) := by
  obtain ⟨d, h1, h2⟩ := uppv_all ⟨c.toNat, c.toNat_lt⟩
  refine ⟨UInt8.ofNat d.val, ?_, ?_⟩
  · rw [UInt8.toNat_ofNat_of_lt' (by simp)]; exact h1
  · rw [UInt8.toNat_ofNat_of_lt' (by simp)]; exact h2

theorem htokened_calls (c : UInt8) (w : World) : Calls Tryz.prog 79 #[.int .u8 c.toNat] w fun e w' => e = .returned (.bool (Hx.tokened c)) ∧ w' = w := by
  obtain ⟨V, hV⟩ : ∃ V, V = Hx.tokened c := ⟨_, rfl⟩
  rw [← hV]
  obtain ⟨d, hd1, hd2⟩ := uppv_byte c
  have hsm : Hx.small c = (Hx.capital d && decide (90 < c.toNat)) := by
    rw [Bool.eq_iff_iff]
    simp only [Hx.small, Hx.capital, Bool.and_eq_true, decide_eq_true_iff, UInt8.le_iff_toNat_le]
    exact ⟨fun h => by have := hd2.2 h; exact ⟨⟨this.1, this.2.1⟩, this.2.2⟩, fun h => hd2.1 ⟨h.1.1, h.1.2, h.2⟩⟩
  unfold Hx.tokened at hV
  rw [hsm] at hV
  obtain ⟨D, hD⟩ : ∃ D, D = Hx.digit c := ⟨_, rfl⟩
  obtain ⟨C, hC⟩ : ∃ C, C = Hx.capital c := ⟨_, rfl⟩
  obtain ⟨S, hS⟩ : ∃ S, S = Hx.capital d := ⟨_, rfl⟩
  rw [← hD, ← hC, ← hS] at hV
  have HD := Lib.hid hD; have HC := Lib.hid hC; have HS := Lib.hid hS; have HV := Lib.hid hV
  clear hsm hd2 hV hD hC hS
  have DC : ∀ wq, Calls Tryz.prog 59 #[.int .u8 c.toNat] wq fun e w' => e = .returned (.bool D) ∧ w' = wq := fun wq => by rw [HD.out]; exact hdigit_calls c wq
  have CC : ∀ wq, Calls Tryz.prog 53 #[.int .u8 c.toNat] wq fun e w' => e = .returned (.bool C) ∧ w' = wq := fun wq => by rw [HC.out]; exact hcapital_calls c wq
  have SC : ∀ wq, Calls Tryz.prog 53 #[.int .u8 d.toNat] wq fun e w' => e = .returned (.bool S) ∧ w' = wq := fun wq => by rw [HS.out]; exact hcapital_calls d wq
  have DC := Lib.hid DC; have CC := Lib.hid CC; have SC := Lib.hid SC
  have MC : Hid (∀ wq, Calls Tryz.prog 96 #[.string ⟨#[33, 35, 36, 37, 38, 39, 42, 43, 45, 46, 94, 95, 96, 124, 126]⟩, .int .u8 c.toNat] wq fun e w' => e = .returned (.int .i64 (ix Hx.marks c)) ∧ w' = wq) := Lib.hid fun wq => indexByte_calls _ c wq
  cases D with
  | true =>
    have hv : V = true := by rw [HV.out]; rfl
    subst hv
    go_enter Tryz.func79, Tryz.ntmps79
    go_wp2_with fail
    refine (DC.out _).mono ?_
    rintro e w' ⟨rfl, hw'⟩
    have hw' := hw'.symm
    subst hw'
    go_wp2_with fail
    go_ret
    exact ⟨rfl, rfl⟩
  | false =>
  cases C with
  | true =>
    have hv : V = true := by rw [HV.out]; rfl
    subst hv
    go_enter Tryz.func79, Tryz.ntmps79
    go_wp2_with fail
    refine (DC.out _).mono ?_
    rintro e w' ⟨rfl, hw'⟩
    have hw' := hw'.symm
    subst hw'
    go_wp2_with fail
    refine (CC.out _).mono ?_
    rintro e w' ⟨rfl, hw'⟩
    have hw' := hw'.symm
    subst hw'
    go_wp2_with fail
    go_ret
    exact ⟨rfl, rfl⟩
  | false =>
  cases S with
  | true =>
    by_cases h90 : 90 < c.toNat
    · have hv : V = true := by rw [HV.out]; simp [h90]
      have n90 : decide ((90 : Int) < (c.toNat : Int)) = true := by simp; omega
      subst hv
      clear h90
      go_enter Tryz.func79, Tryz.ntmps79
      go_wp2_with fail
      refine (DC.out _).mono ?_
      rintro e w' ⟨rfl, hw'⟩
      have hw' := hw'.symm
      subst hw'
      go_wp2_with fail
      refine (CC.out _).mono ?_
      rintro e w' ⟨rfl, hw'⟩
      have hw' := hw'.symm
      subst hw'
      go_wp2_with fail
      refine (SC.out _).mono ?_
      rintro e w' ⟨rfl, hw'⟩
      have hw' := hw'.symm
      subst hw'
      go_wp2_with fail
      go_ret
      exact ⟨rfl, rfl⟩
    · have n90 : decide ((90 : Int) < (c.toNat : Int)) = false := by simp; omega
      by_cases hm : c ∈ Hx.marks
      · have hix := (ix_pos hm).1
        obtain ⟨X, hX⟩ : ∃ X, X = ix Hx.marks c := ⟨_, rfl⟩
        have MC2 := Lib.hid (fun wq => hX ▸ MC.out wq)
        rw [← hX] at hix
        have hv : V = true := by rw [HV.out]; simp [hm]
        subst hv
        clear hX hm h90
        go_enter Tryz.func79, Tryz.ntmps79
        go_wp2_with fail
        refine (DC.out _).mono ?_
        rintro e w' ⟨rfl, hw'⟩
        have hw' := hw'.symm
        subst hw'
        go_wp2_with fail
        refine (CC.out _).mono ?_
        rintro e w' ⟨rfl, hw'⟩
        have hw' := hw'.symm
        subst hw'
        go_wp2_with fail
        refine (SC.out _).mono ?_
        rintro e w' ⟨rfl, hw'⟩
        have hw' := hw'.symm
        subst hw'
        go_wp2_with fail
        refine (MC2.out _).mono ?_
        rintro e w' ⟨rfl, hw'⟩
        have hw' := hw'.symm
        subst hw'
        go_wp2_with fail
        go_ret
        exact ⟨rfl, rfl⟩
      · have hix := ix_neg hm
        have MC2 := Lib.hid (fun wq => hix ▸ MC.out wq)
        have hv : V = false := by rw [HV.out]; simp [hm, h90]
        subst hv
        clear hix hm h90
        go_enter Tryz.func79, Tryz.ntmps79
        go_wp2_with fail
        refine (DC.out _).mono ?_
        rintro e w' ⟨rfl, hw'⟩
        have hw' := hw'.symm
        subst hw'
        go_wp2_with fail
        refine (CC.out _).mono ?_
        rintro e w' ⟨rfl, hw'⟩
        have hw' := hw'.symm
        subst hw'
        go_wp2_with fail
        refine (SC.out _).mono ?_
        rintro e w' ⟨rfl, hw'⟩
        have hw' := hw'.symm
        subst hw'
        go_wp2_with fail
        refine (MC2.out _).mono ?_
        rintro e w' ⟨rfl, hw'⟩
        have hw' := hw'.symm
        subst hw'
        go_wp2_with fail
        go_ret
        exact ⟨rfl, rfl⟩
  | false =>
    by_cases hm : c ∈ Hx.marks
    · have hix := (ix_pos hm).1
      obtain ⟨X, hX⟩ : ∃ X, X = ix Hx.marks c := ⟨_, rfl⟩
      have MC2 := Lib.hid (fun wq => hX ▸ MC.out wq)
      rw [← hX] at hix
      have hv : V = true := by rw [HV.out]; simp [hm]
      subst hv
      clear hX hm
      go_enter Tryz.func79, Tryz.ntmps79
      go_wp2_with fail
      refine (DC.out _).mono ?_
      rintro e w' ⟨rfl, hw'⟩
      have hw' := hw'.symm
      subst hw'
      go_wp2_with fail
      refine (CC.out _).mono ?_
      rintro e w' ⟨rfl, hw'⟩
      have hw' := hw'.symm
      subst hw'
      go_wp2_with fail
      refine (SC.out _).mono ?_
      rintro e w' ⟨rfl, hw'⟩
      have hw' := hw'.symm
      subst hw'
      go_wp2_with fail
      refine (MC2.out _).mono ?_
      rintro e w' ⟨rfl, hw'⟩
      have hw' := hw'.symm
      subst hw'
      go_wp2_with fail
      go_ret
      exact ⟨rfl, rfl⟩
    · have hix := ix_neg hm
      have MC2 := Lib.hid (fun wq => hix ▸ MC.out wq)
      have hv : V = false := by rw [HV.out]; simp [hm]
      subst hv
      clear hix hm
      go_enter Tryz.func79, Tryz.ntmps79
      go_wp2_with fail
      refine (DC.out _).mono ?_
      rintro e w' ⟨rfl, hw'⟩
      have hw' := hw'.symm
      subst hw'
      go_wp2_with fail
      refine (CC.out _).mono ?_
      rintro e w' ⟨rfl, hw'⟩
      have hw' := hw'.symm
      subst hw'
      go_wp2_with fail
      refine (SC.out _).mono ?_
      rintro e w' ⟨rfl, hw'⟩
      have hw' := hw'.symm
      subst hw'
      go_wp2_with fail
      refine (MC2.out _).mono ?_
      rintro e w' ⟨rfl, hw'⟩
      have hw' := hw'.symm
      subst hw'
      go_wp2_with fail
      go_ret
      exact ⟨rfl, rfl⟩
end Go.Proofs.YthdmdafhldicmaaGreatDoor
