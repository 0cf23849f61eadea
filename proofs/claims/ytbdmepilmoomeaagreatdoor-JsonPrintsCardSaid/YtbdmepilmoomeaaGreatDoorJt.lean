/- WALKS: Text. -/
import Derived.Test.YtbdmepilmoomeaaGreatDoorTxt
import Derived.Test.YtbdmepilmoomeaaGreatDoorCxFit
import Derived.StillTailTactics
namespace Go.Proofs.YtbdmepilmoomeaaGreatDoor
open Go.RowKit

theorem escB_cases (c : UInt8) :
    (∃ k : Nat, ∃ x : UInt8, k < 7 ∧ ix [34, 92, 8, 12, 10, 13, 9] c = k ∧ (⟨#[34, 92, 98, 102, 110, 114, 116]⟩ : ByteArray).extract k (k + 1) = ⟨#[x]⟩ ∧ Cx.escB c = [92, x]) ∨
    (ix [34, 92, 8, 12, 10, 13, 9] c = -1 ∧ c < 32 ∧ Cx.escB c = [92, 117, 48, 48, Cx.lowHex (c >>> 4), Cx.lowHex (c &&& 15)]) ∨
    (ix [34, 92, 8, 12, 10, 13, 9] c = -1 ∧ ¬ c < 32 ∧ Cx.escB c = [c]) := by
  by_cases h1 : c = 34
  · subst h1; exact .inl ⟨0, 34, by decide, by decide, by rw [extract_list]; rfl, rfl⟩
  by_cases h2 : c = 92
  · subst h2; exact .inl ⟨1, 92, by decide, by decide, by rw [extract_list]; rfl, rfl⟩
  by_cases h3 : c = 8
  · subst h3; exact .inl ⟨2, 98, by decide, by decide, by rw [extract_list]; rfl, rfl⟩
  by_cases h4 : c = 12
  · subst h4; exact .inl ⟨3, 102, by decide, by decide, by rw [extract_list]; rfl, rfl⟩
  by_cases h5 : c = 10
  · subst h5; exact .inl ⟨4, 110, by decide, by decide, by rw [extract_list]; rfl, rfl⟩
  by_cases h6 : c = 13
  · subst h6; exact .inl ⟨5, 114, by decide, by decide, by rw [extract_list]; rfl, rfl⟩
  by_cases h7 : c = 9
  · subst h7; exact .inl ⟨6, 116, by decide, by decide, by rw [extract_list]; rfl, rfl⟩
  have hix : ix [34, 92, 8, 12, 10, 13, 9] c = -1 := by
    refine ix_neg ?_
    simp only [List.mem_cons, List.not_mem_nil, or_false, not_or]
    exact ⟨h1, h2, h3, h4, h5, h6, h7⟩
  right
  by_cases h8 : c < 32
  · left
    refine ⟨hix, h8, ?_⟩
    unfold Cx.escB
    rw [if_neg h1, if_neg h2, if_neg h3, if_neg h4, if_neg h5, if_neg h6, if_neg h7, if_pos h8]
  · right
    refine ⟨hix, h8, ?_⟩
    unfold Cx.escB
    rw [if_neg h1, if_neg h2, if_neg h3, if_neg h4, if_neg h5, if_neg h6, if_neg h7, if_neg h8]

theorem Bld.below {B c : Nat} {l : List UInt8} {w w' : World} (h : Bld B c l w) (k : Below w.heap.size w w') : Bld B c l w' := by
  have h' : Bld B c l w := h
  have hl := h.lt
  have key : ∀ p, Lib.BuilderAtF 63 5 B c p (Lib.byteCells l) w → Lib.BuilderAtF 63 5 B c p (Lib.byteCells l) w' := by
    intro p ⟨hB, v, hbk, hown, hne⟩
    refine ⟨hB, v, (k.block _ hl.2).trans hbk, ?_, hne⟩
    refine hown.kept (row := some w.heap.size) ⟨k.os, k.tape, k.output, k.size, fun i hi _ => k.block i hi⟩ (.inr ?_)
    intro e
    have := hown.lt _ e; omega
  exact h'.imp (key _) (key _)

theorem and15_all : ∀ k : Fin 256, bits .and .u8 k.val 15 = ((k.val % 16 : Nat) : Int) := by decide +kernel
theorem and15 (c : UInt8) : bits .and .u8 c.toNat 15 = ((c.toNat % 16 : Nat) : Int) := and15_all ⟨c.toNat, c.toNat_lt⟩
theorem shr4 (c : UInt8) : c >>> 4 = UInt8.ofNat (c.toNat / 16) := by
  apply UInt8.toNat_inj.1
  rw [UInt8.toNat_shiftRight]
  have := c.toNat_lt
  simp [Nat.shiftRight_eq_div_pow]
  omega
theorem and15' (c : UInt8) : c &&& 15 = UInt8.ofNat (c.toNat % 16) := by
  apply UInt8.toNat_inj.1
  rw [UInt8.toNat_and]
  have h : c.toNat &&& 15 = c.toNat % 16 := Nat.and_two_pow_sub_one_eq_mod c.toNat 4
  simp [h]
  omega
theorem Bld.drew {B c : Nat} {l : List UInt8} {w : World} (h : Bld B c l w) : Bld B c l w.drew := h.drewN 1
theorem hex_digit (n : Nat) (h : n < 16) : (⟨#[48, 49, 50, 51, 52, 53, 54, 55, 56, 57, 97, 98, 99, 100, 101, 102]⟩ : ByteArray).extract n (n + 1) = ⟨#[Cx.lowHex (UInt8.ofNat n)]⟩ := by
  rw [extract_list]
  have key : ∀ k : Fin 16, (([48, 49, 50, 51, 52, 53, 54, 55, 56, 57, 97, 98, 99, 100, 101, 102] : List UInt8).drop k.val).take (k.val + 1 - k.val) = [Cx.lowHex (UInt8.ofNat k.val)] := by decide +kernel
  have := key ⟨n, h⟩
  simp only at this
  rw [this]

set_option maxRecDepth 100000 in
set_option maxHeartbeats 2000000 in
theorem jtext_calls (s : ByteArray) (w : World) (hs : s.size ≤ 100000000) :
    Calls Tryz.prog 20 #[.string s] w fun e w' => e = .returned (.string ⟨(Cx.jtext s.data.toList).toArray⟩) ∧ Below w.heap.size w w' := by
  have hba := Bld.fresh w
  have HB := Lib.hid hba
  have HW := Lib.hid ((Below.refl w.heap.size w).alloc (Nat.le_refl _) (.cells #[.pointer none, .slice none 0 0] 63))
  clear hba
  go_enter Tryz.func20, Tryz.ntmps20
  go_wp2_with fail
  refine (show Calls Tryz.prog 45 #[.pointer (some ⟨w.heap.size, 0, none⟩), .int .u8 34] _ _ from writeByte_calls w.heap.size w.heap.size [] 34 _ HB.out (by simp) (by simp)).mono ?_
  rintro e w1 ⟨rfl, k1, k2, _⟩
  have K1 := Lib.hid k1; have K2 := Lib.hid (HW.out.trans k2)
  clear k1 k2 HB HW
  go_wp2_with fail
  go_loopg [10] s.size (fun q x wr => ∃ k : Nat, x = .int .i64 k ∧ q = s.size - k ∧ k ≤ s.size ∧ Hid (Bld w.heap.size w.heap.size (34 :: Cx.esc (s.data.toList.take k)) wr) ∧ Hid (Below w.heap.size w wr))
  case atStart => exact ⟨0, rfl, rfl, Nat.zero_le _, K1.out, K2.out⟩
  case round =>
    obtain ⟨k, rfl, hq, hk, HB, HW⟩ := hrel
    have HQ := Lib.hid hq
    clear hq K1 K2
    rcases Nat.lt_or_ge k s.size with hlt | hge
    · have he : Cx.esc (s.data.toList.take (k + 1)) = Cx.esc (s.data.toList.take k) ++ Cx.escB s[k] := by
        rw [List.take_succ_eq_append_getElem (show k < s.data.toList.length from hlt)]
        show List.flatMap _ _ = _
        rw [List.flatMap_append]
        simp [Cx.esc]; rfl
      have hlen : (Cx.esc (s.data.toList.take k)).length ≤ 6 * k := by
        have := Cx.esc_length6 (s.data.toList.take k)
        have h2 := List.length_take_le k s.data.toList
        omega
      have HE := Lib.hid he
      clear he
      go_wp2_with fail
      refine (indexByte_calls _ _ _).mono ?_
      rintro e w' ⟨rfl, rfl⟩
      rcases escB_cases s[k] with ⟨j, x, hj, hix, hsl, hes⟩ | ⟨hix, h32, hes⟩ | ⟨hix, h32, hes⟩
      · have h' : ix (⟨#[34, 92, 8, 12, 10, 13, 9]⟩ : ByteArray).data.toList s[k] = j := hix
        rw [h']
        have HSL := Lib.hid hsl; have HES := Lib.hid hes
        clear h' hix hsl hes
        go_wp2_with fail
        rw [HSL.out]
        have hsz : (⟨#[92]⟩ ++ ⟨#[x]⟩ : ByteArray).size = 2 := by simp [ByteArray.size_append]; rfl
        have hl2 : (34 :: Cx.esc (s.data.toList.take k)).length + (⟨#[92]⟩ ++ ⟨#[x]⟩ : ByteArray).size ≤ 140737488355328 := by rw [hsz]; simp; omega
        refine (writeString_calls w.heap.size w.heap.size _ _ _ HB.out hl2 HW.out.size).mono ?_
        rintro e w5 ⟨⟨v5, rfl⟩, k1, k2, _⟩
        have K1 := Lib.hid k1; have K2 := Lib.hid (HW.out.trans k2)
        clear k1 k2
        go_wp2
        go_roundg (s.size - (k + 1))
        case measure => have := HQ.out; omega
        case rel =>
          refine ⟨k + 1, by go_num, rfl, by omega, ?_, K2.out⟩
          have := K1.out
          rw [HE.out, HES.out]
          rw [show ((⟨#[92]⟩ : ByteArray) ++ ⟨#[x]⟩).data.toList = [92, x] by simp] at this
          exact this
      · have h' : ix (⟨#[34, 92, 8, 12, 10, 13, 9]⟩ : ByteArray).data.toList s[k] = -1 := hix
        rw [h']
        have i32 : (s[k].toNat : Int) < 32 := by rw [UInt8.lt_iff_toNat_lt] at h32; simp at h32; omega
        have HES := Lib.hid hes
        clear h' hix hes h32
        go_wp2_with fail
        obtain ⟨p, hp⟩ : ∃ p : Nat, p = s[k].toNat / 16 := ⟨_, rfl⟩
        obtain ⟨q, hq⟩ : ∃ q : Nat, q = s[k].toNat % 16 := ⟨_, rfl⟩
        have hA : (s[k].toNat : Int) / 16 = (p : Int) := by rw [hp]; rfl
        have hB : bits .and .u8 (s[k].toNat : Int) 15 = (q : Int) := by rw [and15, hq]
        have hp2 : p < 2 := by omega
        have hq2 : q < 16 := by omega
        have hC : IntKind.u8.wrap ((p : Int) + 1) = (p : Int) + 1 := by unfold IntKind.wrap; simp [IntKind.signed, IntKind.bits]; omega
        have hC2 : IntKind.u8.wrap ((q : Int) + 1) = (q : Int) + 1 := by unfold IntKind.wrap; simp [IntKind.signed, IntKind.bits]; omega
        have hD : ((p : Int) + 1).toNat = p + 1 := by omega
        have hD2 : ((q : Int) + 1).toNat = q + 1 := by omega
        have hE : (p : Int) + 1 ≤ 16 := by omega
        have hE2 : (q : Int) + 1 ≤ 16 := by omega
        have hF : (p : Int) ≤ (p : Int) + 1 := by omega
        have hF2 : (q : Int) ≤ (q : Int) + 1 := by omega
        obtain ⟨a, ha⟩ : ∃ a : UInt8, a = Cx.lowHex (UInt8.ofNat p) := ⟨_, rfl⟩
        obtain ⟨b, hb⟩ : ∃ b : UInt8, b = Cx.lowHex (UInt8.ofNat q) := ⟨_, rfl⟩
        have hX : (⟨#[48, 49, 50, 51, 52, 53, 54, 55, 56, 57, 97, 98, 99, 100, 101, 102]⟩ : ByteArray).extract p (p + 1) = ⟨#[a]⟩ := by rw [hex_digit p (by omega), ha]
        have hX2 : (⟨#[48, 49, 50, 51, 52, 53, 54, 55, 56, 57, 97, 98, 99, 100, 101, 102]⟩ : ByteArray).extract q (q + 1) = ⟨#[b]⟩ := by rw [hex_digit q (by omega), hb]
        have hS : ∀ w0 : World, (Op.stringOp .add ⟨#[92, 117, 48, 48]⟩ ⟨#[a]⟩).run Tryz.prog w0 = .ok (.string ⟨#[92, 117, 48, 48, a]⟩) w0 := fun w0 => run_string_add_sum w0 _ _ (by simp [ByteArray.size])
        have hS2 : ∀ w0 : World, (Op.stringOp .add ⟨#[92, 117, 48, 48, a]⟩ ⟨#[b]⟩).run Tryz.prog w0 = .ok (.string ⟨#[92, 117, 48, 48, a, b]⟩) w0 := fun w0 => run_string_add_sum w0 _ _ (by simp [ByteArray.size])
        have HA := Lib.hid ha; have HB2 := Lib.hid hb
        have HP := Lib.hid hp; have HQ2 := Lib.hid hq
        clear hp hq ha hb
        go_still_tail 14, (by kernel_rfl)
        change wpList _ _ _ _ _ w'.drew
        clear hA hB hC hC2 hD hD2 hE hE2 hF hF2 hX hX2 hS hS2
        go_wp2_with fail
        refine (writeString_calls w.heap.size w.heap.size _ ⟨#[92, 117, 48, 48, a, b]⟩ _ HB.out.drew (by simp [ByteArray.size]; omega) HW.out.drew.size).mono ?_
        rintro e w5 ⟨⟨v5, rfl⟩, k1, k2, _⟩
        have K1 := Lib.hid k1; have K2 := Lib.hid (HW.out.drew.trans k2)
        clear k1 k2
        go_wp2
        go_roundg (s.size - (k + 1))
        case measure => have := HQ.out; omega
        case rel =>
          refine ⟨k + 1, by go_num, rfl, by omega, ?_, K2.out⟩
          have := K1.out
          rw [HE.out, HES.out, show s[k] >>> 4 = UInt8.ofNat p by rw [HP.out]; exact shr4 _, show s[k] &&& 15 = UInt8.ofNat q by rw [HQ2.out]; exact and15' _, ← HA.out, ← HB2.out]
          exact this
      · have h' : ix (⟨#[34, 92, 8, 12, 10, 13, 9]⟩ : ByteArray).data.toList s[k] = -1 := hix
        rw [h']
        have i32 : ¬ ((s[k].toNat : Int) < 32) := by rw [UInt8.lt_iff_toNat_lt] at h32; simp at h32; omega
        have HES := Lib.hid hes
        clear h' hix hes h32
        go_wp2_with fail
        refine (writeByte_calls w.heap.size w.heap.size _ s[k] _ HB.out (by simp; omega) HW.out.size).mono ?_
        rintro e w5 ⟨rfl, k1, k2, _⟩
        have K1 := Lib.hid k1; have K2 := Lib.hid (HW.out.trans k2)
        clear k1 k2
        go_wp2
        go_roundg (s.size - (k + 1))
        case measure => have := HQ.out; omega
        case rel => exact ⟨k + 1, by go_num, rfl, by omega, by have := K1.out; rw [HE.out, HES.out]; exact this, K2.out⟩
    · have hkk : k = s.size := by omega
      subst hkk
      go_wp2_with fail
      have hlen := Cx.esc_length6 s.data.toList
      rw [show s.data.toList.take s.size = s.data.toList from List.take_of_length_le (Nat.le_refl _)] at HB
      refine (show Calls Tryz.prog 45 #[.pointer (some ⟨w.heap.size, 0, none⟩), .int .u8 34] _ _ from writeByte_calls w.heap.size w.heap.size _ 34 _ HB.out (by simp at hlen ⊢; omega) HW.out.size).mono ?_
      rintro e w5 ⟨rfl, k1, k2, _⟩
      have K1 := Lib.hid k1; have K2 := Lib.hid (HW.out.trans k2)
      clear k1 k2
      go_wp2_with fail
      refine (string_calls w.heap.size w.heap.size _ _ K1.out K2.out.size).mono ?_
      rintro e w6 ⟨rfl, _, k2, _⟩
      have K3 := Lib.hid (K2.out.trans k2)
      clear k2
      go_wp2
      go_ret
      exact ⟨rfl, K3.out⟩
end Go.Proofs.YtbdmepilmoomeaaGreatDoor
