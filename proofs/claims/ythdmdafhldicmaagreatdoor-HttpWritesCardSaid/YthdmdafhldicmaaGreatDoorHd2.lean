/- WALKS: Decode of the document's answer. -/
import Derived.Test.YthdmdafhldicmaaGreatDoorHby
import Derived.Test.YthdmdafhldicmaaGreatDoorHr
import Derived.Test.YthdmdafhldicmaaGreatDoorHdc
import Derived.StillTailTactics
namespace Go.Proofs.YthdmdafhldicmaaGreatDoor
open Go.RowKit

/-- A hexadecimal digit; below 0: none. -/
def hexI (c : UInt8) : Int := match Hx.hexv c with | some d => (d : Int) | none => -1
theorem hexI_eq (c : UInt8) : hexI c = if 48 ≤ c.toNat ∧ c.toNat ≤ 57 then (c.toNat : Int) - 48 else if 97 ≤ c.toNat ∧ c.toNat ≤ 102 then (c.toNat : Int) - 87 else if 65 ≤ c.toNat ∧ c.toNat ≤ 70 then (c.toNat : Int) - 55 else -1 := by
  unfold hexI Hx.hexv
  by_cases h1 : 48 ≤ c.toNat ∧ c.toNat ≤ 57
  · rw [if_pos h1, if_pos h1]; simp only; omega
  rw [if_neg h1, if_neg h1]
  by_cases h2 : 97 ≤ c.toNat ∧ c.toNat ≤ 102
  · rw [if_pos h2, if_pos h2]; simp only; omega
  rw [if_neg h2, if_neg h2]
  by_cases h3 : 65 ≤ c.toNat ∧ c.toNat ≤ 70
  · rw [if_pos h3, if_pos h3]; simp only; omega
  rw [if_neg h3, if_neg h3]

theorem digit20_calls (x : Nat) (w : World) : Calls Tryz.prog 48 #[.int .u8 x] w fun e w' => e = .returned (.bool (decide (48 ≤ x ∧ x ≤ 57))) ∧ w' = w := by
  by_cases h1 : 48 ≤ x
  · by_cases h2 : x ≤ 57
    · have e : decide (48 ≤ x ∧ x ≤ 57) = true := by simp; omega
      rw [e]
      have i1 : (48 : Int) ≤ x := by omega
      have i2 : (x : Int) ≤ 57 := by omega
      go_enter Tryz.func48, Tryz.ntmps48
      go_wp2_with fail
      go_ret
      exact ⟨rfl, rfl⟩
    · have e : decide (48 ≤ x ∧ x ≤ 57) = false := by simp; omega
      rw [e]
      have i1 : (48 : Int) ≤ x := by omega
      have i2 : ¬ (x : Int) ≤ 57 := by omega
      go_enter Tryz.func48, Tryz.ntmps48
      go_wp2_with fail
      go_ret
      exact ⟨rfl, rfl⟩
  · have e : decide (48 ≤ x ∧ x ≤ 57) = false := by simp; omega
    rw [e]
    have i1 : ¬ (48 : Int) ≤ x := by omega
    go_enter Tryz.func48, Tryz.ntmps48
    go_wp2_with fail
    go_ret
    exact ⟨rfl, rfl⟩

set_option maxRecDepth 100000 in
theorem six20_calls (c : UInt8) (x : Int) (w : World) (hx : x = c.toNat) : Calls Tryz.prog 33 #[.int .u8 x] w fun e w' => e = .returned (.int .i64 (hexI c)) ∧ w' = w := by
  subst hx
  have hc := c.toNat_lt
  obtain ⟨n, hn⟩ : ∃ n : Nat, n = c.toNat := ⟨_, rfl⟩
  obtain ⟨R, hR⟩ : ∃ R, R = hexI c := ⟨_, rfl⟩
  rw [← hR]
  rw [hexI_eq, ← hn] at hR
  rw [← hn] at hc ⊢
  have HR := Lib.hid hR
  clear hn hR
  by_cases h1 : 48 ≤ n ∧ n ≤ 57
  · have e : decide (48 ≤ n ∧ n ≤ 57) = true := by simpa using h1
    have hd := digit20_calls n w
    rw [e] at hd
    have hv : R = (n : Int) - 48 := by rw [HR.out, if_pos h1]
    have HD := Lib.hid hd; have HV := Lib.hid hv
    have b1 : 48 ≤ (n : Int) := by omega
    have b2 : (n : Int) ≤ 57 := by omega
    clear e hd hv h1
    go_enter Tryz.func33, Tryz.ntmps33
    go_wp2_with fail
    refine HD.out.mono ?_
    rintro e w' ⟨rfl, hw'⟩
    have hw' := hw'.symm
    subst hw'
    go_wp2_with fail
    go_ret
    exact ⟨ret_int (by rw [HV.out]), rfl⟩
  · have e : decide (48 ≤ n ∧ n ≤ 57) = false := by simp; omega
    have hd := digit20_calls n w
    rw [e] at hd
    have hr := HR.out
    rw [if_neg h1] at hr
    have HD := Lib.hid hd; have HV := Lib.hid hr
    have b0 : 0 ≤ (n : Int) := by omega
    have b3 : (n : Int) ≤ 255 := by omega
    have hcs : (97 ≤ n ∧ n ≤ 102) ∨ (¬ 97 ≤ n ∧ (65 ≤ n ∧ n ≤ 70)) ∨ (¬ 97 ≤ n ∧ ¬ 65 ≤ n) ∨ (97 ≤ n ∧ ¬ n ≤ 102) ∨ (¬ 97 ≤ n ∧ 65 ≤ n ∧ ¬ n ≤ 70) := by omega
    clear e hd h1 HR hr
    go_enter Tryz.func33, Tryz.ntmps33
    go_wp2_with fail
    refine HD.out.mono ?_
    rintro e w' ⟨rfl, hw'⟩
    have hw' := hw'.symm
    subst hw'
    rcases hcs with ⟨h1, h2⟩ | ⟨h1, h2, h3⟩ | ⟨h1, h2⟩ | ⟨h1, h2⟩ | ⟨h1, h2, h3⟩
    · have i1 : (97 : Int) ≤ n := by omega
      have i2 : (n : Int) ≤ 102 := by omega
      have hv := HV.out
      rw [if_pos ⟨h1, h2⟩] at hv
      have HW := Lib.hid hv
      clear hv h1 h2
      go_wp2_with fail
      go_ret
      exact ⟨ret_int (by rw [HW.out]; omega), rfl⟩
    · have i1 : ¬ (97 : Int) ≤ n := by omega
      have i2 : (65 : Int) ≤ n := by omega
      have i3 : (n : Int) ≤ 70 := by omega
      have hv := HV.out
      rw [if_neg (fun h => h1 h.1), if_pos ⟨h2, h3⟩] at hv
      have HW := Lib.hid hv
      clear hv h1 h2 h3
      go_wp2_with fail
      go_ret
      exact ⟨ret_int (by rw [HW.out]; omega), rfl⟩
    · have i1 : ¬ (97 : Int) ≤ n := by omega
      have i2 : ¬ (65 : Int) ≤ n := by omega
      have hv := HV.out
      rw [if_neg (fun h => h1 h.1), if_neg (fun h => h2 h.1)] at hv
      have HW := Lib.hid hv
      clear hv h1 h2
      go_wp2_with fail
      go_ret
      exact ⟨ret_int (by rw [HW.out]), rfl⟩
    · have i1 : (97 : Int) ≤ n := by omega
      have i2 : ¬ (n : Int) ≤ 102 := by omega
      have i3 : (65 : Int) ≤ n := by omega
      have i4 : ¬ (n : Int) ≤ 70 := by omega
      have hv := HV.out
      rw [if_neg (fun h => h2 h.2), if_neg (fun h => by omega)] at hv
      have HW := Lib.hid hv
      clear hv h1 h2
      go_wp2_with fail
      go_ret
      exact ⟨ret_int (by rw [HW.out]), rfl⟩
    · have i1 : ¬ (97 : Int) ≤ n := by omega
      have i2 : (65 : Int) ≤ n := by omega
      have i3 : ¬ (n : Int) ≤ 70 := by omega
      have hv := HV.out
      rw [if_neg (fun h => h1 h.1), if_neg (fun h => h3 h.2)] at hv
      have HW := Lib.hid hv
      clear hv h1 h2 h3
      go_wp2_with fail
      go_ret
      exact ⟨ret_int (by rw [HW.out]), rfl⟩

theorem drop_one {t : Hx.Bytes} {i : Nat} {c : UInt8} (h : t[i]? = some c) : t.drop i = c :: t.drop (i + 1) := by
  obtain ⟨hlt, he⟩ := List.getElem?_eq_some_iff.1 h
  rw [List.drop_eq_getElem_cons hlt, he]

set_option maxRecDepth 100000 in
set_option maxHeartbeats 4000000 in
theorem decode2_calls (t : Hx.Bytes) (w : World) (hl : t.length ≤ 100000) :
    Calls Tryz.prog 21 #[.string ⟨t.toArray⟩] w (DecPost (decOut t) w) := by
  have hz1 := size_list t
  obtain ⟨i0, hi, hz0, hzz1, hz2⟩ := info_parts infoU8
  obtain ⟨D, hD⟩ : ∃ D, D = Hx.decode t := ⟨_, rfl⟩
  obtain ⟨R, hR⟩ : ∃ R, R = decOut t := ⟨_, rfl⟩
  rw [← hR]
  unfold decOut at hR
  rw [← hD] at hR
  have hd0 : D = (Hx.decode (t.drop 0)).map fun z => ([] : Hx.Bytes) ++ z := by rw [hD]; simp
  have HR := Lib.hid hR; have HD := Lib.hid hd0
  have HI := Lib.hid hi; have HZ := Lib.hid (And.intro hz0 (And.intro hzz1 hz2))
  have OB0 := Lib.hid (OB.nil w.heap.size w)
  have B0 := Lib.hid (Below.refl w.heap.size w)
  clear hR hD hd0 hi hz0 hzz1 hz2
  go_enter Tryz.func21, Tryz.ntmps21
  go_wp2_with fail
  go_loopg [4, 5] (t.length + 1) (fun q a b wr => ∃ (i : Nat) (acc : Hx.Bytes), b = .int .i64 i ∧ i ≤ t.length ∧ t.length < i + q ∧ acc.length ≤ i ∧ Hid (D = (Hx.decode (t.drop i)).map fun z => acc ++ z) ∧ Hid (OB w.heap.size a acc wr) ∧ Hid (Below w.heap.size w wr))
  case atStart => exact ⟨0, [], rfl, Nat.zero_le _, by omega, Nat.le_refl _, HD, OB0, B0⟩
  case round =>
    clear OB0 B0 HD
    obtain ⟨i, acc, rfl, hile, hq, hal, HD, OBK, HB⟩ := hrel
    obtain ⟨q, rfl⟩ : ∃ q, gk = q + 1 := ⟨gk - 1, by omega⟩
    have hBw := HB.out.size
    by_cases hlt : i < t.length
    rotate_left
    · have hdr : t.drop i = [] := List.drop_eq_nil_of_le (by omega)
      have hd := HD.out
      rw [hdr, Hx.decode_nil] at hd
      simp only [Option.map_some, List.append_nil] at hd
      have hr := HR.out
      rw [hd] at hr
      simp only at hr
      obtain ⟨V, hV⟩ : ∃ V, V = Lib.validD acc := ⟨_, rfl⟩
      rw [← hV] at hr
      have HR2 := Lib.hid hr
      have hvc := fun wq => valid2_calls ⟨acc.toArray⟩ wq (by rw [size_list]; unfold maxLen; omega)
      rw [show (⟨acc.toArray⟩ : ByteArray).data.toList = acc by simp, ← hV] at hvc
      have VC := Lib.hid hvc
      have hcv := OBK.out.conv
      have hltI : ¬ (i : Int) < (t.length : Int) := by omega
      have OBH := OBK
      clear hdr hd hr hV hvc hlt OBK
      go_wp2_with fail
      refine (VC.out _).mono ?_
      rintro e w4 ⟨rfl, k⟩
      have b4 := Lib.hid (HB.out.trans (k.mono HB.out.size))
      have hcv4 := (OBH.out.below k).conv
      clear k hcv VC OBH HB
      cases V with
      | false =>
        have hr := HR2.out
        rw [if_neg (by decide)] at hr
        subst hr
        go_wp2_with fail
        go_ret2
        exact ⟨rfl, b4.out⟩
      | true =>
        have hr := HR2.out
        rw [if_pos rfl] at hr
        subst hr
        go_wp2_with fail
        go_ret2
        exact ⟨rfl, b4.out⟩
    obtain ⟨c, hc⟩ : ∃ c, t[i]? = some c := ⟨t[i], by simp [hlt]⟩
    have hci : (((⟨t.toArray⟩ : ByteArray)[i]'(by rw [hz1]; exact hlt)).toNat : Int) = (c.toNat : Int) := by
      have h1 := List.getElem?_eq_getElem hlt
      rw [h1] at hc
      injection hc with hc
      rw [← hc]; rfl
    have hltI : (i : Int) < (t.length : Int) := by omega
    have hdr := drop_one hc
    obtain ⟨x, hx⟩ : ∃ x : Nat, x = c.toNat := ⟨_, rfl⟩
    rw [← hx] at hci
    have hx255 : x ≤ 255 := by have := c.toNat_lt; omega
    have hi := HI.out
    obtain ⟨hz0, hzz1, hz2⟩ := HZ.out
    by_cases h37 : c = 37
    rotate_left
    · have hd := HD.out
      rw [hdr, Hx.decode_ne h37, Option.map_map] at hd
      have hd2 : D = (Hx.decode (t.drop (i + 1))).map fun z => (acc ++ [c]) ++ z := by
        rw [hd]; congr 1; funext z; simp
      have hne : ((x : Int) != 37) = true := by
        rw [bne_iff_ne]; intro h
        exact h37 (UInt8.toNat_inj.1 (by rw [← hx]; show x = 37; omega))
      have HD2 := Lib.hid hd2; have HX := Lib.hid hx
      clear hd hd2 hdr hc h37 hx HD
      go_wp2_with (at_builtin; refine wpList_append_own _ rfl _ _ 50 rfl w.heap.size 5 i0 (.int .u8 0) 1 1 Tryz.underlying50 hi hz0 hzz1 hz2 rfl (by decide) _ _ _ rfl (World.ownsRow.alloc OBK.out _) ⟨wr.heap.size, 0, none⟩ 1 1 [.int .u8 x] rfl rfl ?c1 ?c2 ?c3 ?c4 ?c5 ?_)
      case c1 =>
        intro j u hj
        match j, hj with
        | 0, hj => simp at hj; subst hj; simp [Addr.add]
      case c2 => first | rfl | (intro u hu; simp at hu; subst hu; rfl)
      case c3 => unfold maxLen; omega
      case c4 => omega
      case c5 => simp; omega
      intro v' w4 hown hgrow _
      have O4 : Hid (OB w.heap.size v' (acc ++ [c]) w4) := Lib.hid (by
        unfold OB
        rw [HX.out] at hown
        simpa [Lib.byteCells] using hown)
      have B4 : Hid (Below w.heap.size w w4) := Lib.hid ((HB.out.alloc HB.out.size _).grown hgrow (by simp; omega) (fun j hj => OB.own OBK.out j hj))
      clear hown hgrow hi hz0 hzz1 hz2 OBK HB hltI hci hne HX
      go_wp2_with fail
      go_roundg q
      case measure => omega
      case rel => exact ⟨i + 1, acc ++ [c], by go_num, by omega, by omega, by rw [List.length_append]; simp; omega, HD2, O4, B4⟩
    subst h37
    have hxe : x = 37 := hx
    subst hxe
    have hne : ((37 : Int) != 37) = false := rfl
    by_cases hsh : t.length ≤ i + 2
    · have hd := HD.out
      rw [hdr, Hx.decode_short (by rw [List.length_drop]; omega)] at hd
      have hr := HR.out
      rw [hd] at hr
      simp only [Option.map_none] at hr
      have hgeI : (t.length : Int) ≤ (i : Int) + 2 := by omega
      subst hr
      clear hd hdr hc hx hsh
      go_wp2_with fail
      go_ret2
      exact ⟨rfl, HB.out⟩
    have hgeI : ¬ (t.length : Int) ≤ (i : Int) + 2 := by omega
    have hl1 : i + 1 < t.length := by omega
    have hl2 : i + 2 < t.length := by omega
    obtain ⟨a, ha⟩ : ∃ a, t[i + 1]? = some a := ⟨t[i + 1], by simp [hl1]⟩
    obtain ⟨b, hb⟩ : ∃ b, t[i + 2]? = some b := ⟨t[i + 2], by simp [hl2]⟩
    have hdr1 := drop_one ha; have hdr2 := drop_one hb
    rw [show i + 1 + 1 = i + 2 by omega] at hdr1
    rw [show i + 2 + 1 = i + 3 by omega] at hdr2
    obtain ⟨xa, hxa⟩ : ∃ x : Nat, x = a.toNat := ⟨_, rfl⟩
    obtain ⟨xb, hxb⟩ : ∃ x : Nat, x = b.toNat := ⟨_, rfl⟩
    have hca : (((⟨t.toArray⟩ : ByteArray)[i + 1]'(by rw [hz1]; exact hl1)).toNat : Int) = (xa : Int) := by
      have h1 := List.getElem?_eq_getElem hl1
      rw [h1] at ha
      injection ha with ha
      rw [hxa, ← ha]; rfl
    have hcb : (((⟨t.toArray⟩ : ByteArray)[i + 2]'(by rw [hz1]; exact hl2)).toNat : Int) = (xb : Int) := by
      have h1 := List.getElem?_eq_getElem hl2
      rw [h1] at hb
      injection hb with hb
      rw [hxb, ← hb]; rfl
    have hla : (i : Int) + 1 < (t.length : Int) := by omega
    have hlb : (i : Int) + 2 < (t.length : Int) := by omega
    obtain ⟨H, hH⟩ : ∃ H : Nat → Int, ∀ n, H n = hexI (UInt8.ofNat n) := ⟨_, fun _ => rfl⟩
    have SF : Hid (∀ (n : Nat) wq, n < 256 → Calls Tryz.prog 33 #[.int .u8 (n : Int)] wq fun e w' => e = .returned (.int .i64 (H n)) ∧ w' = wq) := Lib.hid fun n wq hn => by rw [hH]; exact six20_calls _ n wq (by rw [UInt8.toNat_ofNat_of_lt' hn])
    have hHa : H xa = hexI a := by rw [hH, hxa, UInt8.ofNat_toNat]
    have hHb : H xb = hexI b := by rw [hH, hxb, UInt8.ofNat_toNat]
    have hxa256 : xa < 256 := by have := a.toNat_lt; omega
    have hxb256 : xb < 256 := by have := b.toNat_lt; omega
    obtain ⟨A, hA⟩ : ∃ A, A = hexI a := ⟨_, rfl⟩
    obtain ⟨B, hB⟩ : ∃ B, B = hexI b := ⟨_, rfl⟩
    have SA : Hid (∀ wq, Calls Tryz.prog 33 #[.int .u8 (xa : Int)] wq fun e w' => e = .returned (.int .i64 A) ∧ w' = wq) := Lib.hid fun wq => by rw [hA]; exact six20_calls a xa wq (by rw [hxa])
    have SB : Hid (∀ wq, Calls Tryz.prog 33 #[.int .u8 (xb : Int)] wq fun e w' => e = .returned (.int .i64 B) ∧ w' = wq) := Lib.hid fun wq => by rw [hB]; exact six20_calls b xb wq (by rw [hxb])
    have hd := HD.out
    rw [hdr, hdr1, hdr2, Hx.decode_two] at hd
    have HDD := Lib.hid hd
    rw [← hA] at hHa; rw [← hB] at hHb
    have HHA := Lib.hid hHa; have HHB := Lib.hid hHb
    clear hd hdr hdr1 hdr2 ha hb hc hx hxa hxb HD hsh hH hHa hHb
    unfold hexI at hA hB
    cases hva : Hx.hexv a with
    | none =>
      rw [hva] at hA
      simp only at hA
      have hd := HDD.out
      rw [hva] at hd
      simp only [Option.map_none] at hd
      have hr := HR.out
      rw [hd] at hr
      simp only at hr
      subst hA hr
      clear hd hva hB
      go_wp2_with fail
      refine (SA.out _).mono ?_
      rintro e w' ⟨rfl, hw'⟩
      have hw' := hw'.symm
      subst hw'
      go_wp2_with fail
      go_ret2
      exact ⟨rfl, HB.out⟩
    | some xh =>
    have hxh := Hx.hexv_lt hva
    rw [hva] at hA
    simp only at hA
    cases hvb : Hx.hexv b with
    | none =>
      rw [hvb] at hB
      simp only at hB
      have hd := HDD.out
      rw [hva, hvb] at hd
      simp only [Option.map_none] at hd
      have hr := HR.out
      rw [hd] at hr
      simp only at hr
      subst hA hB hr
      have ha0 : ¬ (xh : Int) < 0 := by omega
      clear hd hva hvb
      go_wp2_with fail
      refine (SA.out _).mono ?_
      rintro e w' ⟨rfl, hw'⟩
      have hw' := hw'.symm
      subst hw'
      go_wp2_with fail
      refine (SB.out _).mono ?_
      rintro e w' ⟨rfl, hw'⟩
      have hw' := hw'.symm
      subst hw'
      go_wp2_with fail
      go_ret2
      exact ⟨rfl, HB.out⟩
    | some yh =>
    have hyh := Hx.hexv_lt hvb
    rw [hvb] at hB
    simp only at hB
    have hd := HDD.out
    rw [hva, hvb] at hd
    simp only [Option.map_map] at hd
    obtain ⟨v, hv⟩ : ∃ v : Nat, v = xh * 16 + yh := ⟨_, rfl⟩
    have hv255 : v < 256 := by omega
    have hd2 : D = (Hx.decode (t.drop (i + 3))).map fun z => (acc ++ [UInt8.ofNat v]) ++ z := by
      rw [hd, hv]; congr 1; funext z; simp
    have hvn : (UInt8.ofNat v).toNat = v := UInt8.toNat_ofNat_of_lt' hv255
    have HD2 := Lib.hid hd2; have HVN := Lib.hid hvn
    subst hA hB
    have ha0 : ¬ (xh : Int) < 0 := by omega
    have hb0 : ¬ (yh : Int) < 0 := by omega
    have e1 : IntKind.i64.wrap ((i : Int) + 1) = (i : Int) + 1 := IntWalk.i64_in _ (by omega)
    have e2 : IntKind.i64.wrap ((i : Int) + 2) = (i : Int) + 2 := IntWalk.i64_in _ (by omega)
    have e3 : IntKind.i64.wrap (16 * (xh : Int)) = 16 * (xh : Int) := IntWalk.i64_in _ (by omega)
    have e4 : IntKind.i64.wrap (16 * (xh : Int) + (yh : Int)) = (v : Int) := by rw [IntWalk.i64_in _ (by omega)]; omega
    have e45 : IntKind.i64.wrap (v : Int) = (v : Int) := IntWalk.i64_in _ (by omega)
    have e5 : IntKind.u8.wrap (v : Int) = (v : Int) := IntWalk.u8_in _ (by omega)
    have e6 : ((i : Int) + 1).toNat = i + 1 := by omega
    have e7 : ((i : Int) + 2).toNat = i + 2 := by omega
    have e8 : 0 ≤ (i : Int) + 1 := by omega
    have e9 : 0 ≤ (i : Int) + 2 := by omega
    have hHa := HHA.out; have hHb := HHB.out
    have hvI : 16 * (xh : Int) + (yh : Int) = (v : Int) := by omega
    have HVI := Lib.hid hvI
    clear hd hd2 hvn hva hvb HDD hv
    go_wp2_with fail
    refine (SA.out _).mono ?_
    rintro e w' ⟨rfl, hw'⟩
    have hw' := hw'.symm
    subst hw'
    go_wp2_with fail
    refine (SB.out _).mono ?_
    rintro e w' ⟨rfl, hw'⟩
    have hw' := hw'.symm
    subst hw'
    go_wp2_with fail
    go_cut [4] (fun z wc => Hid (OB w.heap.size z (acc ++ [UInt8.ofNat v]) wc) ∧ Hid (Below w.heap.size w wc))
    case first =>
      go_region_held3 (fun _ => True) (trivial)
        (first
          | (go_at_call 33; refine (SF.out _ _ (by omega)).mono ?_; rintro e w' ⟨rfl, hw'⟩; have hw' := hw'.symm; subst hw')
          | (refine step_append_lies _ (by rfl) _ _ _ (by rfl) w.heap.size 5 i0 _ 1 1 Tryz.underlying50 hi hz0 hzz1 hz2 rfl (by decide) _ acc.length (Lib.byteCells acc) (by rfl) (World.ownsRow.alloc OBK.out _) ⟨_, 0, none⟩ 1 1 [.int .u8 v] (by rfl) (by rfl) (World.news_of_block (cs := #[.int .u8 v]) (t := 5) (fr := (0, 0)) (by first | exact lit_at rfl | exact lit_under rfl | exact lit_at (by simp))) (by intro u hu; simp at hu; subst hu; rfl) (by omega) (by unfold maxLen; omega) (by omega) (by have := hBw; first | omega | (simp; omega)) _ rfl ?_; intro gg cap w6 hown6 hgrow6 hat6 hlt6))
      all_goals
        try go_wp2_with fail
        go_meet
        case rel =>
          refine ⟨Lib.hid ?_, Lib.hid ?_⟩
          · unfold OB
            have h := hown6
            rw [← HVN.out] at h
            simpa [Lib.byteCells] using h
          · exact (((below_dN HB.out 1).alloc HB.out.size _).grown hgrow6 (by simp; omega) (fun j hj => OB.own OBK.out j hj))
    case rest =>
    obtain ⟨O4, B4⟩ := hcut
    clear e1 e2 e3 e4 e45 e5 e6 e7 e8 e9 hvI hHa hHb hca hcb hci SA SB SF hltI hgeI hla hlb ha0 hb0 OBK HB HHA HHB HVI hne
    go_wp2_with fail
    go_roundg q
    case measure => omega
    case rel => exact ⟨i + 3, acc ++ [UInt8.ofNat v], by go_num, by omega, by omega, by rw [List.length_append]; simp; omega, HD2, O4, B4⟩
end Go.Proofs.YthdmdafhldicmaaGreatDoor
