/- WALKS: among, at each predicate that package http hands it. -/
import Derived.Test.YthdmdafhldicmaaGreatDoorHa
namespace Go.Proofs.YthdmdafhldicmaaGreatDoor
open Go.RowKit

set_option maxRecDepth 100000 in
theorem among_tokened (t : List UInt8) (w : World) (hl : t.length ≤ maxLen) :
    Calls Tryz.prog 52 #[.string ⟨t.toArray⟩, .func (.func 79) #[] #[]] w fun e w' => e = .returned (.bool (t.all Hx.tokened)) ∧ w' = w := by
  unfold maxLen at hl
  have hts := size_list t
  obtain ⟨R, hR⟩ : ∃ R, R = t.all Hx.tokened := ⟨_, rfl⟩
  rw [← hR]
  have HR := Lib.hid hR
  clear hR
  go_enter Tryz.func52, Tryz.ntmps52
  go_wp2_with fail
  go_loop [8] (fun z => ∃ i : Nat, z = .int .i64 i ∧ i ≤ t.length ∧ Hid (R = (t.drop i).all Hx.tokened)) (fun z => t.length - (intOf z).toNat)
  case atStart => exact ⟨0, rfl, Nat.zero_le _, Lib.hid HR.out⟩
  case round =>
    obtain ⟨i, rfl, hi, HA⟩ := hrel
    rcases Nat.lt_or_ge i t.length with hlt | hge
    · obtain ⟨c, hc⟩ : ∃ c, t[i]? = some c := ⟨t[i], by simp [hlt]⟩
      have hci : (((⟨t.toArray⟩ : ByteArray)[i]'(by rw [hts]; exact hlt)).toNat : Int) = (c.toNat : Int) := by
        have h1 := List.getElem?_eq_getElem hlt
        rw [h1] at hc
        injection hc with hc
        rw [← hc]; rfl
      have hltI : (i : Int) < (t.length : Int) := by omega
      have hdr : t.drop i = c :: t.drop (i + 1) := by
        obtain ⟨hlt, he⟩ := List.getElem?_eq_some_iff.1 hc
        rw [List.drop_eq_getElem_cons hlt, he]
      obtain ⟨P, hP⟩ : ∃ P, P = Hx.tokened c := ⟨_, rfl⟩
      have HA2 : Hid (R = (P && (t.drop (i + 1)).all Hx.tokened)) := Lib.hid (by rw [HA.out, hdr, List.all_cons, ← hP])
      have PC : Hid (∀ wq, Calls Tryz.prog 79 #[.int .u8 c.toNat] wq fun e w' => e = .returned (.bool P) ∧ w' = wq) := Lib.hid fun wq => by rw [hP]; exact htokened_calls c wq
      clear hc hdr HA hP
      cases P with
      | false =>
        have hf : R = false := by rw [HA2.out]; rfl
        subst hf
        go_wp2_with fail
        refine (PC.out _).mono ?_
        rintro e w' ⟨rfl, hw'⟩
        have hw' := hw'.symm
        subst hw'
        go_wp2_with fail
        go_ret
        exact ⟨rfl, rfl⟩
      | true =>
        have hf : R = (t.drop (i + 1)).all Hx.tokened := by rw [HA2.out]; rfl
        have HF := Lib.hid hf
        clear hf
        go_wp2_with fail
        refine (PC.out _).mono ?_
        rintro e w' ⟨rfl, hw'⟩
        have hw' := hw'.symm
        subst hw'
        go_wp2_with fail
        go_round
        case rel => exact ⟨i + 1, by go_num, by omega, HF⟩
        case measure => simp [intOf]; omega
    · have hik : i = t.length := by omega
      subst hik
      have hltI : ¬ (t.length : Int) < (t.length : Int) := by omega
      have hf : R = true := by rw [HA.out, List.drop_length]; rfl
      subst hf
      go_wp2_with fail
      go_ret
      exact ⟨rfl, rfl⟩

set_option maxRecDepth 100000 in
theorem among_valued (t : List UInt8) (w : World) (hl : t.length ≤ maxLen) :
    Calls Tryz.prog 52 #[.string ⟨t.toArray⟩, .func (.func 80) #[] #[]] w fun e w' => e = .returned (.bool (t.all Hx.valued)) ∧ w' = w := by
  unfold maxLen at hl
  have hts := size_list t
  obtain ⟨R, hR⟩ : ∃ R, R = t.all Hx.valued := ⟨_, rfl⟩
  rw [← hR]
  have HR := Lib.hid hR
  clear hR
  go_enter Tryz.func52, Tryz.ntmps52
  go_wp2_with fail
  go_loop [8] (fun z => ∃ i : Nat, z = .int .i64 i ∧ i ≤ t.length ∧ Hid (R = (t.drop i).all Hx.valued)) (fun z => t.length - (intOf z).toNat)
  case atStart => exact ⟨0, rfl, Nat.zero_le _, Lib.hid HR.out⟩
  case round =>
    obtain ⟨i, rfl, hi, HA⟩ := hrel
    rcases Nat.lt_or_ge i t.length with hlt | hge
    · obtain ⟨c, hc⟩ : ∃ c, t[i]? = some c := ⟨t[i], by simp [hlt]⟩
      have hci : (((⟨t.toArray⟩ : ByteArray)[i]'(by rw [hts]; exact hlt)).toNat : Int) = (c.toNat : Int) := by
        have h1 := List.getElem?_eq_getElem hlt
        rw [h1] at hc
        injection hc with hc
        rw [← hc]; rfl
      have hltI : (i : Int) < (t.length : Int) := by omega
      have hdr : t.drop i = c :: t.drop (i + 1) := by
        obtain ⟨hlt, he⟩ := List.getElem?_eq_some_iff.1 hc
        rw [List.drop_eq_getElem_cons hlt, he]
      obtain ⟨P, hP⟩ : ∃ P, P = Hx.valued c := ⟨_, rfl⟩
      have HA2 : Hid (R = (P && (t.drop (i + 1)).all Hx.valued)) := Lib.hid (by rw [HA.out, hdr, List.all_cons, ← hP])
      have PC : Hid (∀ wq, Calls Tryz.prog 80 #[.int .u8 c.toNat] wq fun e w' => e = .returned (.bool P) ∧ w' = wq) := Lib.hid fun wq => by rw [hP]; exact hvalued_calls c wq
      clear hc hdr HA hP
      cases P with
      | false =>
        have hf : R = false := by rw [HA2.out]; rfl
        subst hf
        go_wp2_with fail
        refine (PC.out _).mono ?_
        rintro e w' ⟨rfl, hw'⟩
        have hw' := hw'.symm
        subst hw'
        go_wp2_with fail
        go_ret
        exact ⟨rfl, rfl⟩
      | true =>
        have hf : R = (t.drop (i + 1)).all Hx.valued := by rw [HA2.out]; rfl
        have HF := Lib.hid hf
        clear hf
        go_wp2_with fail
        refine (PC.out _).mono ?_
        rintro e w' ⟨rfl, hw'⟩
        have hw' := hw'.symm
        subst hw'
        go_wp2_with fail
        go_round
        case rel => exact ⟨i + 1, by go_num, by omega, HF⟩
        case measure => simp [intOf]; omega
    · have hik : i = t.length := by omega
      subst hik
      have hltI : ¬ (t.length : Int) < (t.length : Int) := by omega
      have hf : R = true := by rw [HA.out, List.drop_length]; rfl
      subst hf
      go_wp2_with fail
      go_ret
      exact ⟨rfl, rfl⟩

set_option maxRecDepth 100000 in
theorem among_capital (t : List UInt8) (w : World) (hl : t.length ≤ maxLen) :
    Calls Tryz.prog 52 #[.string ⟨t.toArray⟩, .func (.func 53) #[] #[]] w fun e w' => e = .returned (.bool (t.all Hx.capital)) ∧ w' = w := by
  unfold maxLen at hl
  have hts := size_list t
  obtain ⟨R, hR⟩ : ∃ R, R = t.all Hx.capital := ⟨_, rfl⟩
  rw [← hR]
  have HR := Lib.hid hR
  clear hR
  go_enter Tryz.func52, Tryz.ntmps52
  go_wp2_with fail
  go_loop [8] (fun z => ∃ i : Nat, z = .int .i64 i ∧ i ≤ t.length ∧ Hid (R = (t.drop i).all Hx.capital)) (fun z => t.length - (intOf z).toNat)
  case atStart => exact ⟨0, rfl, Nat.zero_le _, Lib.hid HR.out⟩
  case round =>
    obtain ⟨i, rfl, hi, HA⟩ := hrel
    rcases Nat.lt_or_ge i t.length with hlt | hge
    · obtain ⟨c, hc⟩ : ∃ c, t[i]? = some c := ⟨t[i], by simp [hlt]⟩
      have hci : (((⟨t.toArray⟩ : ByteArray)[i]'(by rw [hts]; exact hlt)).toNat : Int) = (c.toNat : Int) := by
        have h1 := List.getElem?_eq_getElem hlt
        rw [h1] at hc
        injection hc with hc
        rw [← hc]; rfl
      have hltI : (i : Int) < (t.length : Int) := by omega
      have hdr : t.drop i = c :: t.drop (i + 1) := by
        obtain ⟨hlt, he⟩ := List.getElem?_eq_some_iff.1 hc
        rw [List.drop_eq_getElem_cons hlt, he]
      obtain ⟨P, hP⟩ : ∃ P, P = Hx.capital c := ⟨_, rfl⟩
      have HA2 : Hid (R = (P && (t.drop (i + 1)).all Hx.capital)) := Lib.hid (by rw [HA.out, hdr, List.all_cons, ← hP])
      have PC : Hid (∀ wq, Calls Tryz.prog 53 #[.int .u8 c.toNat] wq fun e w' => e = .returned (.bool P) ∧ w' = wq) := Lib.hid fun wq => by rw [hP]; exact hcapital_calls c wq
      clear hc hdr HA hP
      cases P with
      | false =>
        have hf : R = false := by rw [HA2.out]; rfl
        subst hf
        go_wp2_with fail
        refine (PC.out _).mono ?_
        rintro e w' ⟨rfl, hw'⟩
        have hw' := hw'.symm
        subst hw'
        go_wp2_with fail
        go_ret
        exact ⟨rfl, rfl⟩
      | true =>
        have hf : R = (t.drop (i + 1)).all Hx.capital := by rw [HA2.out]; rfl
        have HF := Lib.hid hf
        clear hf
        go_wp2_with fail
        refine (PC.out _).mono ?_
        rintro e w' ⟨rfl, hw'⟩
        have hw' := hw'.symm
        subst hw'
        go_wp2_with fail
        go_round
        case rel => exact ⟨i + 1, by go_num, by omega, HF⟩
        case measure => simp [intOf]; omega
    · have hik : i = t.length := by omega
      subst hik
      have hltI : ¬ (t.length : Int) < (t.length : Int) := by omega
      have hf : R = true := by rw [HA.out, List.drop_length]; rfl
      subst hf
      go_wp2_with fail
      go_ret
      exact ⟨rfl, rfl⟩

set_option maxRecDepth 100000 in
theorem among_visible (t : List UInt8) (w : World) (hl : t.length ≤ maxLen) :
    Calls Tryz.prog 52 #[.string ⟨t.toArray⟩, .func (.func 55) #[] #[]] w fun e w' => e = .returned (.bool (t.all Hx.visible)) ∧ w' = w := by
  unfold maxLen at hl
  have hts := size_list t
  obtain ⟨R, hR⟩ : ∃ R, R = t.all Hx.visible := ⟨_, rfl⟩
  rw [← hR]
  have HR := Lib.hid hR
  clear hR
  go_enter Tryz.func52, Tryz.ntmps52
  go_wp2_with fail
  go_loop [8] (fun z => ∃ i : Nat, z = .int .i64 i ∧ i ≤ t.length ∧ Hid (R = (t.drop i).all Hx.visible)) (fun z => t.length - (intOf z).toNat)
  case atStart => exact ⟨0, rfl, Nat.zero_le _, Lib.hid HR.out⟩
  case round =>
    obtain ⟨i, rfl, hi, HA⟩ := hrel
    rcases Nat.lt_or_ge i t.length with hlt | hge
    · obtain ⟨c, hc⟩ : ∃ c, t[i]? = some c := ⟨t[i], by simp [hlt]⟩
      have hci : (((⟨t.toArray⟩ : ByteArray)[i]'(by rw [hts]; exact hlt)).toNat : Int) = (c.toNat : Int) := by
        have h1 := List.getElem?_eq_getElem hlt
        rw [h1] at hc
        injection hc with hc
        rw [← hc]; rfl
      have hltI : (i : Int) < (t.length : Int) := by omega
      have hdr : t.drop i = c :: t.drop (i + 1) := by
        obtain ⟨hlt, he⟩ := List.getElem?_eq_some_iff.1 hc
        rw [List.drop_eq_getElem_cons hlt, he]
      obtain ⟨P, hP⟩ : ∃ P, P = Hx.visible c := ⟨_, rfl⟩
      have HA2 : Hid (R = (P && (t.drop (i + 1)).all Hx.visible)) := Lib.hid (by rw [HA.out, hdr, List.all_cons, ← hP])
      have PC : Hid (∀ wq, Calls Tryz.prog 55 #[.int .u8 c.toNat] wq fun e w' => e = .returned (.bool P) ∧ w' = wq) := Lib.hid fun wq => by rw [hP]; exact hvisible_calls c wq
      clear hc hdr HA hP
      cases P with
      | false =>
        have hf : R = false := by rw [HA2.out]; rfl
        subst hf
        go_wp2_with fail
        refine (PC.out _).mono ?_
        rintro e w' ⟨rfl, hw'⟩
        have hw' := hw'.symm
        subst hw'
        go_wp2_with fail
        go_ret
        exact ⟨rfl, rfl⟩
      | true =>
        have hf : R = (t.drop (i + 1)).all Hx.visible := by rw [HA2.out]; rfl
        have HF := Lib.hid hf
        clear hf
        go_wp2_with fail
        refine (PC.out _).mono ?_
        rintro e w' ⟨rfl, hw'⟩
        have hw' := hw'.symm
        subst hw'
        go_wp2_with fail
        go_round
        case rel => exact ⟨i + 1, by go_num, by omega, HF⟩
        case measure => simp [intOf]; omega
    · have hik : i = t.length := by omega
      subst hik
      have hltI : ¬ (t.length : Int) < (t.length : Int) := by omega
      have hf : R = true := by rw [HA.out, List.drop_length]; rfl
      subst hf
      go_wp2_with fail
      go_ret
      exact ⟨rfl, rfl⟩

set_option maxRecDepth 100000 in
theorem among_digit (t : List UInt8) (w : World) (hl : t.length ≤ maxLen) :
    Calls Tryz.prog 52 #[.string ⟨t.toArray⟩, .func (.func 59) #[] #[]] w fun e w' => e = .returned (.bool (t.all Hx.digit)) ∧ w' = w := by
  unfold maxLen at hl
  have hts := size_list t
  obtain ⟨R, hR⟩ : ∃ R, R = t.all Hx.digit := ⟨_, rfl⟩
  rw [← hR]
  have HR := Lib.hid hR
  clear hR
  go_enter Tryz.func52, Tryz.ntmps52
  go_wp2_with fail
  go_loop [8] (fun z => ∃ i : Nat, z = .int .i64 i ∧ i ≤ t.length ∧ Hid (R = (t.drop i).all Hx.digit)) (fun z => t.length - (intOf z).toNat)
  case atStart => exact ⟨0, rfl, Nat.zero_le _, Lib.hid HR.out⟩
  case round =>
    obtain ⟨i, rfl, hi, HA⟩ := hrel
    rcases Nat.lt_or_ge i t.length with hlt | hge
    · obtain ⟨c, hc⟩ : ∃ c, t[i]? = some c := ⟨t[i], by simp [hlt]⟩
      have hci : (((⟨t.toArray⟩ : ByteArray)[i]'(by rw [hts]; exact hlt)).toNat : Int) = (c.toNat : Int) := by
        have h1 := List.getElem?_eq_getElem hlt
        rw [h1] at hc
        injection hc with hc
        rw [← hc]; rfl
      have hltI : (i : Int) < (t.length : Int) := by omega
      have hdr : t.drop i = c :: t.drop (i + 1) := by
        obtain ⟨hlt, he⟩ := List.getElem?_eq_some_iff.1 hc
        rw [List.drop_eq_getElem_cons hlt, he]
      obtain ⟨P, hP⟩ : ∃ P, P = Hx.digit c := ⟨_, rfl⟩
      have HA2 : Hid (R = (P && (t.drop (i + 1)).all Hx.digit)) := Lib.hid (by rw [HA.out, hdr, List.all_cons, ← hP])
      have PC : Hid (∀ wq, Calls Tryz.prog 59 #[.int .u8 c.toNat] wq fun e w' => e = .returned (.bool P) ∧ w' = wq) := Lib.hid fun wq => by rw [hP]; exact hdigit_calls c wq
      clear hc hdr HA hP
      cases P with
      | false =>
        have hf : R = false := by rw [HA2.out]; rfl
        subst hf
        go_wp2_with fail
        refine (PC.out _).mono ?_
        rintro e w' ⟨rfl, hw'⟩
        have hw' := hw'.symm
        subst hw'
        go_wp2_with fail
        go_ret
        exact ⟨rfl, rfl⟩
      | true =>
        have hf : R = (t.drop (i + 1)).all Hx.digit := by rw [HA2.out]; rfl
        have HF := Lib.hid hf
        clear hf
        go_wp2_with fail
        refine (PC.out _).mono ?_
        rintro e w' ⟨rfl, hw'⟩
        have hw' := hw'.symm
        subst hw'
        go_wp2_with fail
        go_round
        case rel => exact ⟨i + 1, by go_num, by omega, HF⟩
        case measure => simp [intOf]; omega
    · have hik : i = t.length := by omega
      subst hik
      have hltI : ¬ (t.length : Int) < (t.length : Int) := by omega
      have hf : R = true := by rw [HA.out, List.drop_length]; rfl
      subst hf
      go_wp2_with fail
      go_ret
      exact ⟨rfl, rfl⟩

end Go.Proofs.YthdmdafhldicmaaGreatDoor
