/- WALKS: escapes and texts. -/
import Derived.Test.YtbdmepilmoomeaaGreatDoorUtf
import Derived.Test.YtbdmepilmoomeaaGreatDoorRd3
namespace Go.Proofs.YtbdmepilmoomeaaGreatDoor
open Go.RowKit

/-- What a call of ParseUint comes to. -/
def PuOut (r : Option Nat) (e : Ending) : Prop := (∀ n, r = some n → e = .returned (.tuple #[.int .u64 n, .nilIface])) ∧ (r = none → ∃ (x : Int) (t : Nat) (p : Value), e = .returned (.tuple #[.int .u64 x, .iface t p]))

theorem parseUint16_calls (t : ByteArray) (hne : t.size ≠ 0) (hmax : t.size ≤ 281474976710656) (w : World) (hg : Glb w) :
    Calls Tryz.prog 124 #[.string t, .int .i64 16, .int .i64 16] w fun e w' => PuOut (hexU 65535 t.data.toList 0) e ∧ Below w.heap.size w w' := by
  have HG := Lib.hid hg; clear hg
  have hm2 : t.size ≤ 9223372036854775806 := by omega
  have hB : Below w.heap.size w (Lib.bytesWorld w 5 t) := by
    have h := ((Below.refl w.heap.size w).drew).alloc (o := .cells (Lib.bytesCells w 5 t) 5) (Nat.le_refl _)
    exact h.trans ⟨rfl, rfl, rfl, by simp [Lib.bytesWorld, World.freeze], fun k hk => by simp [Lib.bytesWorld, World.freeze, Array.getElem?_modify]; intro e; omega⟩
  have HB := Lib.hid hB; clear hB
  cases hr : hexU 65535 t.data.toList 0 with
  | some n =>
    have HR := Lib.hid hr; clear hr
    go_enter Tryz.func124, Tryz.ntmps124
    go_wp2_with fail
    refine (parseUint_inner t hne hm2 w).mono ?_
    rintro e w1 ⟨hp, hw⟩
    have he := hp.1 n HR.out
    subst he
    have HW := Lib.hid hw; clear hw hp hm2 hmax hne
    go_wp2
    go_ret2
    exact ⟨⟨fun m hm => (by injection hm with hm; subst hm; rfl), fun h => by cases h⟩, by rw [HW.out]; exact HB.out⟩
  | none =>
    have HR := Lib.hid hr; clear hr
    go_enter Tryz.func124, Tryz.ntmps124
    go_wp2_with fail
    refine (parseUint_inner t hne hm2 w).mono ?_
    rintro e w1 ⟨hp, hw⟩
    obtain ⟨x, k, hk, rfl⟩ := hp.2 HR.out
    have hG1 : Glb w1 := by rw [hw]; exact HG.out.below HB.out
    have hB1 : Below w.heap.size w w1 := by rw [hw]; exact HB.out
    have HG1 := Lib.hid hG1; have HB1 := Lib.hid hB1
    have HM := Lib.hid hmax
    clear hw hp hG1 hB1 hm2 hmax hne
    rcases hk with rfl | rfl
    · go_wp2_with fail
      obtain ⟨v, hv, hev⟩ := HG1.out.2.2
      refine (Tryz.strconv_toError_range _ t _ _ v w1 HM.out hv hev).mono ?_
      rintro e w2 ⟨N, rfl, _, _, hb2⟩
      have HB2 := Lib.hid hb2
      clear hb2 hv hev
      go_wp2
      go_ret2
      exact ⟨⟨fun m hm => (by cases hm), fun _ => ⟨_, _, _, rfl⟩⟩, HB1.out.trans (HB2.out.mono HB1.out.size)⟩
    · go_wp2_with fail
      obtain ⟨v, hv, hev⟩ := HG1.out.2.1
      refine (Tryz.strconv_toError_syntax _ t _ _ v w1 HM.out hv hev).mono ?_
      rintro e w2 ⟨N, rfl, _, _, hb2⟩
      have HB2 := Lib.hid hb2
      clear hb2 hv hev
      go_wp2
      go_ret2
      exact ⟨⟨fun m hm => (by cases hm), fun _ => ⟨_, _, _, rfl⟩⟩, HB1.out.trans (HB2.out.mono HB1.out.size)⟩

/-- Four digits. -/
theorem hexU_four (a b c d : UInt8) : hexU 65535 [a, b, c, d] 0 = Cx.hex4 [a, b, c, d] := by
  unfold Cx.hex4
  simp only [hexU]
  cases ha : Cx.hexv a with
  | none => rfl
  | some x =>
    have := Cx.hexv_lt ha
    simp only
    rw [if_neg (by omega)]
    cases hb : Cx.hexv b with
    | none => rfl
    | some y =>
      have := Cx.hexv_lt hb
      simp only
      rw [if_neg (by omega)]
      cases hc : Cx.hexv c with
      | none => rfl
      | some z =>
        have := Cx.hexv_lt hc
        simp only
        rw [if_neg (by omega)]
        cases hd : Cx.hexv d with
        | none => rfl
        | some v =>
          have := Cx.hexv_lt hd
          simp only
          rw [if_neg (by omega)]; simp

/-- What 'unit' answers. -/
def unitI (s : List UInt8) (i : Nat) : Int := match Cx.unit s i with
  | some v => v
  | none => -1

theorem cutu_yes (t : ByteArray) (R : List UInt8) (w : World) (h : t.data.toList = 92 :: 117 :: R) :
    Calls Tryz.prog 123 #[.string t, .string ⟨#[92, 117]⟩] w fun e w' => e = .returned (.tuple #[.string ⟨R.toArray⟩, .bool true]) ∧ w' = w := by
  refine (Tryz.strings_CutPrefix t ⟨#[92, 117]⟩ w).mono ?_
  rintro e w' ⟨rfl, rfl⟩
  rw [h]
  exact ⟨by simp [Lib.trimPrefix, Lib.hasPrefix], rfl⟩
theorem cutu_no (t : ByteArray) (w : World) (h : Lib.hasPrefix t.data.toList [92, 117] = false) :
    Calls Tryz.prog 123 #[.string t, .string ⟨#[92, 117]⟩] w fun e w' => e = .returned (.tuple #[.string t, .bool false]) ∧ w' = w := by
  refine (Tryz.strings_CutPrefix t ⟨#[92, 117]⟩ w).mono ?_
  rintro e w' ⟨rfl, rfl⟩
  have h' : Lib.hasPrefix t.data.toList (⟨#[92, 117]⟩ : ByteArray).data.toList = false := h
  rw [h']
  exact ⟨by simp [Lib.trimPrefix, h], rfl⟩

theorem unit_calls (s : ByteArray) (i p : Nat) (m : Int) (b : Nat) (w : World) (h : Rd b s i m w) (hg : Glb w) (hp : p ≤ 200000) (hs : s.size ≤ 100000) :
    Calls Tryz.prog 109 #[.pointer (some ⟨b, 0, none⟩), .int .i64 p] w fun e w' => e = .returned (.int .i64 (unitI s.data.toList p)) ∧ Below w.heap.size w w' := by
  have h0 := h.c0
  have HG := Lib.hid hg; clear hg h
  obtain ⟨q, hq, hqp, hqd⟩ : ∃ q : Nat, q ≤ s.size ∧ min (p : Int) (s.size : Int) = (q : Int) ∧ s.data.toList.drop q = s.data.toList.drop p := by
    rcases Nat.le_total p s.size with h | h
    · exact ⟨p, h, by omega, rfl⟩
    · exact ⟨s.size, Nat.le_refl _, by omega, by rw [List.drop_of_length_le (by simp), List.drop_of_length_le (by simpa using h)]⟩
  have ht : (s.extract q s.size).data.toList = s.data.toList.drop p := by
    rw [extract_list]; simp only; rw [hqd.symm, List.take_of_length_le (by simp)]
  have HT := Lib.hid ht
  clear ht hqd
  by_cases hpre : Lib.hasPrefix (s.data.toList.drop p) [92, 117] = true
  · obtain ⟨R, hR⟩ : ∃ R, s.data.toList.drop p = 92 :: 117 :: R := by
      simp only [Lib.hasPrefix, List.isPrefixOf_iff_prefix] at hpre
      obtain ⟨R, hR⟩ := hpre
      exact ⟨R, hR.symm⟩
    have hRl : R.length ≤ 100000 := by
      have := congrArg List.length hR
      simp at this; omega
    by_cases h4 : 4 ≤ R.length
    · obtain ⟨x0, x1, x2, x3, l, rfl⟩ : ∃ x0 x1 x2 x3 l, R = x0 :: x1 :: x2 :: x3 :: l := by
        match R, h4 with
        | x0 :: x1 :: x2 :: x3 :: l, _ => exact ⟨_, _, _, _, _, rfl⟩
      obtain ⟨R, hRR⟩ : ∃ R, R = x0 :: x1 :: x2 :: x3 :: l := ⟨_, rfl⟩
      rw [← hRR] at hR hRl h4
      have ht4 : ((⟨R.toArray⟩ : ByteArray).extract 0 4).data.toList = [x0, x1, x2, x3] := by rw [extract_list, hRR]; rfl
      have hsz4 : ((⟨R.toArray⟩ : ByteArray).extract 0 4).size = 4 := congrArg List.length ht4
      have hu : unitI s.data.toList p = match hexU 65535 ((⟨R.toArray⟩ : ByteArray).extract 0 4).data.toList 0 with | some v => (v : Int) | none => -1 := by
        unfold unitI Cx.unit
        rw [hR, hRR]; simp only
        rw [← hRR, ht4, hexU_four]
      have HU := Lib.hid hu
      have HC := Lib.hid (HT.out.trans hR)
      have H4 := Lib.hid hsz4
      have hsz : (⟨R.toArray⟩ : ByteArray).size = R.length := by simp [ByteArray.size]
      have HR := Lib.hid hRR
      have HT4 := Lib.hid ht4
      clear hu hR hRR ht4 hsz4 hpre HT
      go_enter Tryz.func109, Tryz.ntmps109
      go_wp2
      go_quiet ((go_at_call 123; exact Calls.quiet_of_same (cutu_yes _ _ _ HC.out)))
      go_wp2_with fail
      refine (parseUint16_calls _ (by rw [H4.out]; decide) (by rw [H4.out]; decide) _ (HG.out.drewN _)).mono ?_
      rintro e w1 ⟨hpu, hb⟩
      have HB : Hid (Below w.heap.size w w1) := Lib.hid ⟨hb.os, hb.tape, hb.output, hb.size, hb.block⟩
      clear hb
      cases hx : hexU 65535 ((⟨R.toArray⟩ : ByteArray).extract 0 4).data.toList 0 with
      | some v =>
        have he := hpu.1 v hx
        subst he
        have hv : (v : Int) < 65536 := by
          have h1 := hx
          rw [HT4.out, hexU_four] at h1
          have := Cx.hex4_lt h1; omega
        have HX := Lib.hid hx
        clear hx hpu
        go_wp2
        go_ret
        have h1 := HU.out
        rw [HX.out] at h1
        exact ⟨ret_int h1.symm, HB.out⟩
      | none =>
        obtain ⟨x, tt, pp, rfl⟩ := hpu.2 hx
        have HX := Lib.hid hx
        clear hx hpu
        go_wp2
        go_ret
        have h1 := HU.out
        rw [HX.out] at h1
        exact ⟨ret_int h1.symm, HB.out⟩
    · have hu : unitI s.data.toList p = -1 := by
        unfold unitI Cx.unit
        rw [hR]
        match R, h4 with
        | [], _ => rfl
        | [_], _ => rfl
        | [_, _], _ => rfl
        | [_, _, _], _ => rfl
        | _ :: _ :: _ :: _ :: _, h => exact absurd (by simp) h
      have HU := Lib.hid hu
      have HC := Lib.hid (HT.out.trans hR)
      have hsz : (⟨R.toArray⟩ : ByteArray).size = R.length := by simp [ByteArray.size]
      have h4' : R.length < 4 := by omega
      clear hu hR hpre HT h4
      go_enter Tryz.func109, Tryz.ntmps109
      go_wp2
      go_quiet ((go_at_call 123; exact Calls.quiet_of_same (cutu_yes _ _ _ HC.out)))
      go_wp2
      go_ret
      exact ⟨ret_int HU.out.symm, (Below.refl _ _).trans ⟨rfl, rfl, rfl, Nat.le_refl _, fun _ _ => rfl⟩⟩
  · have hpre' : Lib.hasPrefix (s.data.toList.drop p) [92, 117] = false := by simpa using hpre
    have hu : unitI s.data.toList p = -1 := by
      unfold unitI Cx.unit
      split
      · rename_i heq
        split at heq
        · rename_i hd
          rw [hd] at hpre; simp [Lib.hasPrefix] at hpre
        · cases heq
      · rfl
    have HU := Lib.hid hu
    have HC : Hid (Lib.hasPrefix (s.extract q s.size).data.toList [92, 117] = false) := by
      have := HT.out; exact Lib.hid (by rw [this]; exact hpre')
    clear hu hpre HT hpre'
    go_enter Tryz.func109, Tryz.ntmps109
    go_wp2
    go_quiet ((go_at_call 123; exact Calls.quiet_of_same (cutu_no _ _ HC.out)))
    go_wp2
    go_ret
    exact ⟨ret_int HU.out.symm, (Below.refl _ _).trans ⟨rfl, rfl, rfl, Nat.le_refl _, fun _ _ => rfl⟩⟩
end Go.Proofs.YtbdmepilmoomeaaGreatDoor
