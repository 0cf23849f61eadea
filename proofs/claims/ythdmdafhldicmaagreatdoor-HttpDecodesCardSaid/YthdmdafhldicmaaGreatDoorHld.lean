/- WALKS: the law HttpDecodes. -/
import Derived.Test.YthdmdafhldicmaaGreatDoorHsh
import Derived.Test.YthdmdafhldicmaaGreatDoorHn
import Derived.Test.YthdmdafhldicmaaGreatDoorHdc
import Derived.Test.YthdmdafhldicmaaGreatDoorHxEnc
namespace Go.Proofs.YthdmdafhldicmaaGreatDoor
open Go.RowKit Go.Maps Go.WideMaps

theorem cut_up : ∀ n : Fin 16, (⟨#[48, 49, 50, 51, 52, 53, 54, 55, 56, 57, 65, 66, 67, 68, 69, 70]⟩ : ByteArray).extract n.val (n.val + 1) = ⟨#[Hx.hexD n.val]⟩ := by decide +kernel
theorem decOut_enc (s : Hx.Bytes) : decOut (Hx.enc s) = if Lib.validD s = true then some s else none := by
  unfold decOut; rw [Hx.decode_enc]
theorem decOut_plain {s : Hx.Bytes} (h : (37 : UInt8) ∉ s) : decOut s = if Lib.validD s = true then some s else none := by
  unfold decOut; rw [Hx.decode_plain h]

set_option maxRecDepth 100000 in
set_option maxHeartbeats 4000000 in
theorem decodes_out (s : Hx.Bytes) (w : World) (hg : Glb w) (ht : Tb w) (h8 : 8 ≤ w.heap.size) (ho : 1000 < s.length) :
    Calls Tryz.prog 9 #[.string ⟨s.toArray⟩] w (LawPost w) := by
  have hz1 := size_list s
  have hc : (1000 : Int) < s.length := by omega
  have HG := Lib.hid hg; have HT := Lib.hid ht
  clear ho hg ht
  go_enter Tryz.func9, Tryz.ntmps9
  go_wp2_with fail
  refine (shown_calls _ HG.out HT.out h8).mono ?_
  rintro e w2 ⟨rfl, k⟩
  have B2 := Lib.hid k
  clear k
  go_wp2_with fail
  go_ret
  exact ⟨rfl, B2.out⟩

set_option maxRecDepth 100000 in
set_option maxHeartbeats 8000000 in
theorem decodes_main (s : Hx.Bytes) (w : World) (hg : Glb w) (ht : Tb w) (hu : Ut w) (h8 : 8 ≤ w.heap.size) (hs : s.length ≤ 1000) :
    Calls Tryz.prog 9 #[.string ⟨s.toArray⟩] w (LawPost w) := by
  have hz1 := size_list s
  have h1 : ¬ (1000 : Int) < s.length := by omega
  have HG := Lib.hid hg; have HT := Lib.hid ht; have HU := Lib.hid hu
  clear hg ht hu
  go_enter Tryz.func9, Tryz.ntmps9
  go_wp2_with fail
  refine (shown_calls _ HG.out HT.out h8).mono ?_
  rintro E w2 ⟨rfl, k⟩
  have B2 := Lib.hid k
  clear k HT
  go_wp2_with fail
  go_loopg [4, 5, 6] (s.length + 1) (fun q a b i wr => ∃ (k : Nat) (T : ByteArray) (H : Bool), a = .string T ∧ b = .bool H ∧ i = .int .i64 k ∧ k ≤ s.length ∧ s.length < k + q ∧ T.size ≤ 3000 ∧ Hid (T = ⟨(Hx.enc (s.take k)).toArray⟩) ∧ Hid (H = decide ((37 : UInt8) ∈ s.take k)) ∧ Hid (Below w.heap.size w wr))
  case atStart => exact ⟨0, ⟨#[]⟩, false, rfl, rfl, rfl, Nat.zero_le _, by omega, by decide, Lib.hid rfl, Lib.hid (by simp), B2⟩
  case round =>
    clear B2
    obtain ⟨k, T, H, rfl, rfl, rfl, hk, hq, hT, HTT, HH, HB⟩ := hrel
    obtain ⟨q, rfl⟩ : ∃ q, gk = q + 1 := ⟨gk - 1, by omega⟩
    by_cases hlt : k < s.length
    · obtain ⟨c, hc⟩ : ∃ c, s[k]? = some c := ⟨s[k], by simp [hlt]⟩
      obtain ⟨x, hx⟩ : ∃ x : Nat, x = c.toNat := ⟨_, rfl⟩
      have hci : (((⟨s.toArray⟩ : ByteArray)[k]'(by rw [hz1]; exact hlt)).toNat : Int) = (x : Int) := by
        have h1 := List.getElem?_eq_getElem hlt
        rw [h1] at hc
        injection hc with hc
        rw [hx, ← hc]; rfl
      have hltI : (k : Int) < (s.length : Int) := by omega
      have hx255 : x ≤ 255 := by have := c.toNat_lt; omega
      obtain ⟨d, hd⟩ : ∃ d : Nat, d = x / 16 := ⟨_, rfl⟩
      obtain ⟨r, hr⟩ : ∃ r : Nat, r = x % 16 := ⟨_, rfl⟩
      have hdI : (x : Int) / 16 = (d : Int) := by omega
      have hrI : (x : Int) % 16 = (r : Int) := by omega
      have hd16 : d < 16 := by omega
      have hr16 : r < 16 := by omega
      have cu := cut_up ⟨d, hd16⟩
      have cl := cut_six ⟨r, hr16⟩
      simp only at cu cl
      have htk : s.take (k + 1) = s.take k ++ [c] := by
        rw [List.take_add_one, hc]; rfl
      have hT2 : (⟨(Hx.enc (s.take k)).toArray⟩ ++ ⟨#[37]⟩ ++ ⟨#[Hx.hexD d]⟩ ++ ⟨#[Hx.hexd r]⟩ : ByteArray) = ⟨(Hx.enc (s.take (k + 1))).toArray⟩ := by
        rw [htk, Hx.enc_snoc, Hx.enc3, ← hx, ← hd, ← hr, show (⟨#[37]⟩ : ByteArray) = ⟨([37] : List UInt8).toArray⟩ from rfl, show (⟨#[Hx.hexD d]⟩ : ByteArray) = ⟨([Hx.hexD d] : List UInt8).toArray⟩ from rfl, show (⟨#[Hx.hexd r]⟩ : ByteArray) = ⟨([Hx.hexd r] : List UInt8).toArray⟩ from rfl, app_bytes2, app_bytes2, app_bytes2]
        simp
      have hTs : (Hx.enc (s.take (k + 1))).length ≤ 3000 := by
        rw [Hx.enc_len]; have : (s.take (k + 1)).length ≤ s.length := List.length_take_le' _ _; omega
      have hTk : T.size ≤ 3 * k := by
        rw [HTT.out, size_list, Hx.enc_len, List.length_take]; omega
      have m1 : ¬ 9223372036854775807 < T.size + 1 := by omega
      have m2 : ¬ 9223372036854775807 < T.size + 1 + 1 := by omega
      have m3 : ¬ 9223372036854775807 < T.size + 1 + 1 + 1 := by omega
      have HT2 := Lib.hid hT2; have CU := Lib.hid cu; have CL := Lib.hid cl; have HTS := Lib.hid hTs; have HTK := Lib.hid htk; have HC := Lib.hid hc
      have hc37 : (x = 37) ↔ (c = 37) := by rw [hx]; exact ⟨fun h => UInt8.toNat_inj.1 h, fun h => by rw [h]; rfl⟩
      have HC37 := Lib.hid hc37
      clear cu cl hT2 hTs htk hc hx hd hr hTk hc37
      go_wp2_with fail
      go_quiet (fail)
      have hh := HH.out
      have hm : decide ((37 : UInt8) ∈ s.take (k + 1)) = (H || decide (c = 37)) := by
        rw [HTK.out, hh, Bool.eq_iff_iff]
        simp only [Bool.or_eq_true, decide_eq_true_eq, List.mem_append, List.mem_singleton]
        exact or_congr Iff.rfl ⟨fun h => h.symm, fun h => h.symm⟩
      have HM := Lib.hid hm
      clear hm hh HH
      cases H with
      | true =>
        go_wp2_with fail
        go_roundg q
        case measure => omega
        case rel =>
          have hX : (T ++ ⟨#[37]⟩ ++ (⟨#[48, 49, 50, 51, 52, 53, 54, 55, 56, 57, 65, 66, 67, 68, 69, 70]⟩ : ByteArray).extract d (d + 1) ++ (⟨#[48, 49, 50, 51, 52, 53, 54, 55, 56, 57, 97, 98, 99, 100, 101, 102]⟩ : ByteArray).extract r (r + 1) : ByteArray) = ⟨(Hx.enc (s.take (k + 1))).toArray⟩ := by rw [CU.out, CL.out, HTT.out]; exact HT2.out
          exact ⟨k + 1, _, true, rfl, rfl, by go_num, by omega, by omega, by rw [hX, size_list]; exact HTS.out, Lib.hid hX, Lib.hid (by rw [HM.out]; rfl), Lib.hid (below_dN HB.out nq)⟩
      | false =>
      by_cases hx37 : x = 37
      · have hcx := HC37.out.1 hx37
        subst hx37
        have HCX := Lib.hid hcx
        clear hcx
        go_wp2_with fail
        go_roundg q
        case measure => omega
        case rel =>
          have hX : (T ++ ⟨#[37]⟩ ++ (⟨#[48, 49, 50, 51, 52, 53, 54, 55, 56, 57, 65, 66, 67, 68, 69, 70]⟩ : ByteArray).extract d (d + 1) ++ (⟨#[48, 49, 50, 51, 52, 53, 54, 55, 56, 57, 97, 98, 99, 100, 101, 102]⟩ : ByteArray).extract r (r + 1) : ByteArray) = ⟨(Hx.enc (s.take (k + 1))).toArray⟩ := by rw [CU.out, CL.out, HTT.out]; exact HT2.out
          exact ⟨k + 1, _, true, rfl, rfl, by go_num, by omega, by omega, by rw [hX, size_list]; exact HTS.out, Lib.hid hX, Lib.hid (by rw [HM.out, decide_eq_true HCX.out]; rfl), Lib.hid (below_dN HB.out nq)⟩
      · have hcx : ¬ c = 37 := fun h => hx37 (HC37.out.2 h)
        have HCX := Lib.hid hcx
        have hne : ((x : Int) == 37) = false := by rw [beq_eq_false_iff_ne]; omega
        clear hcx hx37
        go_wp2_with fail
        go_roundg q
        case measure => omega
        case rel =>
          have hX : (T ++ ⟨#[37]⟩ ++ (⟨#[48, 49, 50, 51, 52, 53, 54, 55, 56, 57, 65, 66, 67, 68, 69, 70]⟩ : ByteArray).extract d (d + 1) ++ (⟨#[48, 49, 50, 51, 52, 53, 54, 55, 56, 57, 97, 98, 99, 100, 101, 102]⟩ : ByteArray).extract r (r + 1) : ByteArray) = ⟨(Hx.enc (s.take (k + 1))).toArray⟩ := by rw [CU.out, CL.out, HTT.out]; exact HT2.out
          exact ⟨k + 1, _, false, rfl, rfl, by go_num, by omega, by omega, by rw [hX, size_list]; exact HTS.out, Lib.hid hX, Lib.hid (by rw [HM.out, decide_eq_false HCX.out]; rfl), Lib.hid (below_dN HB.out nq)⟩
    · have hkk : k = s.length := by omega
      have hTe : T = ⟨(Hx.enc s).toArray⟩ := by rw [HTT.out, hkk, List.take_length]
      have hHe : H = decide ((37 : UInt8) ∈ s) := by rw [HH.out, hkk, List.take_length]
      have hltI : ¬ (k : Int) < (s.length : Int) := by omega
      obtain ⟨V, hV⟩ : ∃ V, V = Lib.validD s := ⟨_, rfl⟩
      obtain ⟨D2, hD2⟩ : ∃ D2, D2 = decOut s := ⟨_, rfl⟩
      have hel : (Hx.enc s).length ≤ 3000 := by rw [Hx.enc_len]; omega
      have c1 := fun wq h1 h2 => decode_calls (Hx.enc s) wq h1 h2 (by omega)
      obtain ⟨O1, hO1⟩ : ∃ O1 : Option Hx.Bytes, O1 = if V = true then some s else none := ⟨_, rfl⟩
      rw [decOut_enc, ← hV, ← hTe, ← hO1] at c1
      have c2 := fun wq h1 h2 => decode_calls s wq h1 h2 (by omega)
      rw [← hD2] at c2
      have hpl : H = false → D2 = O1 := fun h => by
        rw [hD2, hO1, hV]; exact decOut_plain (by rw [h] at hHe; simpa using hHe.symm)
      have C1 := Lib.hid c1; have C2 := Lib.hid c2; have HPL := Lib.hid hpl; have HO1 := Lib.hid hO1
      clear c1 c2 hpl hV hO1 hD2 hTe hHe hkk HTT HH hlt hk hq hT hel
      go_wp2_with fail
      refine (C1.out _ (HG.out.below HB.out) (HU.out.below HB.out)).mono ?_
      rintro e w4 ⟨rfl, k4⟩
      have B4 := Lib.hid (HB.out.trans (k4.mono HB.out.size))
      clear k4 HB C1
      go_wp2_with fail
      refine (C2.out _ (HG.out.below B4.out) (HU.out.below B4.out)).mono ?_
      rintro e w5 ⟨rfl, k5⟩
      have B5 := Lib.hid (B4.out.trans (k5.mono B4.out.size))
      clear k5 B4 C2
      cases H with
      | true =>
        clear HPL
        cases V with
        | true =>
          obtain rfl : O1 = some s := HO1.out
          clear HO1
          cases D2 with
          | none => 
            simp only [Option.getD, Option.isSome]
            go_wp2_with fail
            go_ret
            exact ⟨rfl, B5.out⟩
          | some z => 
            simp only [Option.getD, Option.isSome]
            go_wp2_with fail
            go_ret
            exact ⟨rfl, B5.out⟩
        | false =>
          obtain rfl : O1 = none := HO1.out
          clear HO1
          cases D2 with
          | none => 
            simp only [Option.getD, Option.isSome]
            go_wp2_with fail
            go_ret
            exact ⟨rfl, B5.out⟩
          | some z => 
            simp only [Option.getD, Option.isSome]
            go_wp2_with fail
            go_ret
            exact ⟨rfl, B5.out⟩
      | false =>
        have hd := HPL.out rfl
        have ho := HO1.out
        clear HPL HO1
        cases V with
        | true =>
          obtain rfl : O1 = some s := ho
          obtain rfl : D2 = some s := hd
          simp only [Option.getD, Option.isSome]
          go_wp2_with fail
          go_ret
          exact ⟨rfl, B5.out⟩
        | false =>
          obtain rfl : O1 = none := ho
          obtain rfl : D2 = none := hd
          simp only [Option.getD, Option.isSome]
          go_wp2_with fail
          go_ret
          exact ⟨rfl, B5.out⟩
theorem decodes_calls (s : Hx.Bytes) (w : World) (hg : Glb w) (ht : Tb w) (hu : Ut w) (h8 : 8 ≤ w.heap.size) :
    Calls Tryz.prog 9 #[.string ⟨s.toArray⟩] w (LawPost w) := by
  by_cases ho : 1000 < s.length
  · exact decodes_out s w hg ht h8 ho
  · exact decodes_main s w hg ht hu h8 (by omega)
end Go.Proofs.YthdmdafhldicmaaGreatDoor
