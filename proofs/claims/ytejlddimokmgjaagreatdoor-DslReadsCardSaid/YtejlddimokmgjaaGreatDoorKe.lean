/- WALKS: escapes and texts. WALKS: escapes. WALKS: texts. JSON VALUES IN MEMORY: what it means that five cells hold a value; when it stays so. No walk. WALKS: a name of an object. THE PARTS of a list or an object that is read: what holds in memory while they are gathered. No walk. -/
import Derived.Test.YtejlddimokmgjaaGreatDoorKd
import Derived.StillTailTactics
import Derived.Deep.RegionHeld3
import Derived.Lib.SlicesS
import Derived.Deep.AppendLies
namespace Go.Proofs.YtejlddimokmgjaaGreatDoor
open Go.RowKit

/-- What a call of ParseUint comes to. -/
def PuOut (r : Option Nat) (e : Ending) : Prop := (∀ n, r = some n → e = .returned (.tuple #[.int .u64 n, .nilIface])) ∧ (r = none → ∃ (x : Int) (t : Nat) (p : Value), e = .returned (.tuple #[.int .u64 x, .iface t p]))

theorem parseUint16_calls (t : ByteArray) (hne : t.size ≠ 0) (hmax : t.size ≤ 281474976710656) (w : World) (hg : Glb w) :
    Calls Tryz.prog 186 #[.string t, .int .i64 16, .int .i64 16] w fun e w' => PuOut (hexU 65535 t.data.toList 0) e ∧ Below w.heap.size w w' := by
  have HG := Lib.hid hg; clear hg
  have hm2 : t.size ≤ 9223372036854775806 := by omega
  have hB : Below w.heap.size w (Lib.bytesWorld w 5 t) := by
    have h := ((Below.refl w.heap.size w).drew).alloc (o := .cells (Lib.bytesCells w 5 t) 5) (Nat.le_refl _)
    exact h.trans ⟨rfl, rfl, rfl, by simp [Lib.bytesWorld, World.freeze], fun k hk => by simp [Lib.bytesWorld, World.freeze, Array.getElem?_modify]; intro e; omega⟩
  have HB := Lib.hid hB; clear hB
  cases hr : hexU 65535 t.data.toList 0 with
  | some n =>
    have HR := Lib.hid hr; clear hr
    go_enter Tryz.func186, Tryz.ntmps186
    go_wp2_with fail
    refine (parseUint_inner t hne hm2 w).mono ?_
    rintro e w1 ⟨hp, hw⟩
    have he := hp.1 n HR.out
    subst he
    have HW := Lib.hid hw; clear hw hp hm2 hmax hne
    go_wp2
    go_ret2
    exact ⟨⟨fun m hm => (by injection hm with hm; subst hm; rfl), fun h => by cases h⟩, by rw [HW.out]; exact HB.out⟩
  | none =>
    have HR := Lib.hid hr; clear hr
    go_enter Tryz.func186, Tryz.ntmps186
    go_wp2_with fail
    refine (parseUint_inner t hne hm2 w).mono ?_
    rintro e w1 ⟨hp, hw⟩
    obtain ⟨x, k, hk, rfl⟩ := hp.2 HR.out
    have hG1 : Glb w1 := by rw [hw]; exact HG.out.below HB.out
    have hB1 : Below w.heap.size w w1 := by rw [hw]; exact HB.out
    have HG1 := Lib.hid hG1; have HB1 := Lib.hid hB1
    have HM := Lib.hid hmax
    clear hw hp hG1 hB1 hm2 hmax hne
    rcases hk with rfl | rfl
    · go_wp2_with fail
      obtain ⟨v, hv, hev⟩ := HG1.out.2.2
      refine (Tryz.strconv_toError_range _ t _ _ v w1 HM.out hv hev).mono ?_
      rintro e w2 ⟨N, rfl, _, _, hb2⟩
      have HB2 := Lib.hid hb2
      clear hb2 hv hev
      go_wp2
      go_ret2
      exact ⟨⟨fun m hm => (by cases hm), fun _ => ⟨_, _, _, rfl⟩⟩, HB1.out.trans (HB2.out.mono HB1.out.size)⟩
    · go_wp2_with fail
      obtain ⟨v, hv, hev⟩ := HG1.out.2.1
      refine (Tryz.strconv_toError_syntax _ t _ _ v w1 HM.out hv hev).mono ?_
      rintro e w2 ⟨N, rfl, _, _, hb2⟩
      have HB2 := Lib.hid hb2
      clear hb2 hv hev
      go_wp2
      go_ret2
      exact ⟨⟨fun m hm => (by cases hm), fun _ => ⟨_, _, _, rfl⟩⟩, HB1.out.trans (HB2.out.mono HB1.out.size)⟩

/-- Four digits. -/
theorem hexU_four (a b c d : UInt8) : hexU 65535 [a, b, c, d] 0 = Cx.hex4 [a, b, c, d] := by
  unfold Cx.hex4
  simp only [hexU]
  cases ha : Cx.hexv a with
  | none => rfl
  | some x =>
    have := Cx.hexv_lt ha
    simp only
    rw [if_neg (by omega)]
    cases hb : Cx.hexv b with
    | none => rfl
    | some y =>
      have := Cx.hexv_lt hb
      simp only
      rw [if_neg (by omega)]
      cases hc : Cx.hexv c with
      | none => rfl
      | some z =>
        have := Cx.hexv_lt hc
        simp only
        rw [if_neg (by omega)]
        cases hd : Cx.hexv d with
        | none => rfl
        | some v =>
          have := Cx.hexv_lt hd
          simp only
          rw [if_neg (by omega)]; simp

/-- What 'unit' answers. -/
def unitI (s : List UInt8) (i : Nat) : Int := match Cx.unit s i with
  | some v => v
  | none => -1

theorem cutu_yes (t : ByteArray) (R : List UInt8) (w : World) (h : t.data.toList = 92 :: 117 :: R) :
    Calls Tryz.prog 185 #[.string t, .string ⟨#[92, 117]⟩] w fun e w' => e = .returned (.tuple #[.string ⟨R.toArray⟩, .bool true]) ∧ w' = w := by
  refine (Tryz.strings_CutPrefix t ⟨#[92, 117]⟩ w).mono ?_
  rintro e w' ⟨rfl, rfl⟩
  rw [h]
  exact ⟨by simp [Lib.trimPrefix, Lib.hasPrefix], rfl⟩
theorem cutu_no (t : ByteArray) (w : World) (h : Lib.hasPrefix t.data.toList [92, 117] = false) :
    Calls Tryz.prog 185 #[.string t, .string ⟨#[92, 117]⟩] w fun e w' => e = .returned (.tuple #[.string t, .bool false]) ∧ w' = w := by
  refine (Tryz.strings_CutPrefix t ⟨#[92, 117]⟩ w).mono ?_
  rintro e w' ⟨rfl, rfl⟩
  have h' : Lib.hasPrefix t.data.toList (⟨#[92, 117]⟩ : ByteArray).data.toList = false := h
  rw [h']
  exact ⟨by simp [Lib.trimPrefix, h], rfl⟩

theorem unit_calls (s : ByteArray) (i p : Nat) (m : Int) (b : Nat) (w : World) (h : Rd b s i m w) (hg : Glb w) (hp : p ≤ 200000) (hs : s.size ≤ 100000) :
    Calls Tryz.prog 166 #[.pointer (some ⟨b, 0, none⟩), .int .i64 p] w fun e w' => e = .returned (.int .i64 (unitI s.data.toList p)) ∧ Below w.heap.size w w' := by
  have h0 := h.c0
  have HG := Lib.hid hg; clear hg h
  obtain ⟨q, hq, hqp, hqd⟩ : ∃ q : Nat, q ≤ s.size ∧ min (p : Int) (s.size : Int) = (q : Int) ∧ s.data.toList.drop q = s.data.toList.drop p := by
    rcases Nat.le_total p s.size with h | h
    · exact ⟨p, h, by omega, rfl⟩
    · exact ⟨s.size, Nat.le_refl _, by omega, by rw [List.drop_of_length_le (by simp), List.drop_of_length_le (by simpa using h)]⟩
  have ht : (s.extract q s.size).data.toList = s.data.toList.drop p := by
    rw [extract_list]; simp only; rw [hqd.symm, List.take_of_length_le (by simp)]
  have HT := Lib.hid ht
  clear ht hqd
  by_cases hpre : Lib.hasPrefix (s.data.toList.drop p) [92, 117] = true
  · obtain ⟨R, hR⟩ : ∃ R, s.data.toList.drop p = 92 :: 117 :: R := by
      simp only [Lib.hasPrefix, List.isPrefixOf_iff_prefix] at hpre
      obtain ⟨R, hR⟩ := hpre
      exact ⟨R, hR.symm⟩
    have hRl : R.length ≤ 100000 := by
      have := congrArg List.length hR
      simp at this; omega
    by_cases h4 : 4 ≤ R.length
    · obtain ⟨x0, x1, x2, x3, l, rfl⟩ : ∃ x0 x1 x2 x3 l, R = x0 :: x1 :: x2 :: x3 :: l := by
        match R, h4 with
        | x0 :: x1 :: x2 :: x3 :: l, _ => exact ⟨_, _, _, _, _, rfl⟩
      obtain ⟨R, hRR⟩ : ∃ R, R = x0 :: x1 :: x2 :: x3 :: l := ⟨_, rfl⟩
      rw [← hRR] at hR hRl h4
      have ht4 : ((⟨R.toArray⟩ : ByteArray).extract 0 4).data.toList = [x0, x1, x2, x3] := by rw [extract_list, hRR]; rfl
      have hsz4 : ((⟨R.toArray⟩ : ByteArray).extract 0 4).size = 4 := congrArg List.length ht4
      have hu : unitI s.data.toList p = match hexU 65535 ((⟨R.toArray⟩ : ByteArray).extract 0 4).data.toList 0 with | some v => (v : Int) | none => -1 := by
        unfold unitI Cx.unit
        rw [hR, hRR]; simp only
        rw [← hRR, ht4, hexU_four]
      have HU := Lib.hid hu
      have HC := Lib.hid (HT.out.trans hR)
      have H4 := Lib.hid hsz4
      have hsz : (⟨R.toArray⟩ : ByteArray).size = R.length := by simp [ByteArray.size]
      have HR := Lib.hid hRR
      have HT4 := Lib.hid ht4
      clear hu hR hRR ht4 hsz4 hpre HT
      go_enter Tryz.func166, Tryz.ntmps166
      go_wp2
      go_quiet ((go_at_call 185; exact Calls.quiet_of_same (cutu_yes _ _ _ HC.out)))
      go_wp2_with fail
      refine (parseUint16_calls _ (by rw [H4.out]; decide) (by rw [H4.out]; decide) _ (HG.out.drewN _)).mono ?_
      rintro e w1 ⟨hpu, hb⟩
      have HB : Hid (Below w.heap.size w w1) := Lib.hid ⟨hb.os, hb.tape, hb.output, hb.size, hb.block⟩
      clear hb
      cases hx : hexU 65535 ((⟨R.toArray⟩ : ByteArray).extract 0 4).data.toList 0 with
      | some v =>
        have he := hpu.1 v hx
        subst he
        have hv : (v : Int) < 65536 := by
          have h1 := hx
          rw [HT4.out, hexU_four] at h1
          have := Cx.hex4_lt h1; omega
        have HX := Lib.hid hx
        clear hx hpu
        go_wp2
        go_ret
        have h1 := HU.out
        rw [HX.out] at h1
        exact ⟨ret_int h1.symm, HB.out⟩
      | none =>
        obtain ⟨x, tt, pp, rfl⟩ := hpu.2 hx
        have HX := Lib.hid hx
        clear hx hpu
        go_wp2
        go_ret
        have h1 := HU.out
        rw [HX.out] at h1
        exact ⟨ret_int h1.symm, HB.out⟩
    · have hu : unitI s.data.toList p = -1 := by
        unfold unitI Cx.unit
        rw [hR]
        match R, h4 with
        | [], _ => rfl
        | [_], _ => rfl
        | [_, _], _ => rfl
        | [_, _, _], _ => rfl
        | _ :: _ :: _ :: _ :: _, h => exact absurd (by simp) h
      have HU := Lib.hid hu
      have HC := Lib.hid (HT.out.trans hR)
      have hsz : (⟨R.toArray⟩ : ByteArray).size = R.length := by simp [ByteArray.size]
      have h4' : R.length < 4 := by omega
      clear hu hR hpre HT h4
      go_enter Tryz.func166, Tryz.ntmps166
      go_wp2
      go_quiet ((go_at_call 185; exact Calls.quiet_of_same (cutu_yes _ _ _ HC.out)))
      go_wp2
      go_ret
      exact ⟨ret_int HU.out.symm, (Below.refl _ _).trans ⟨rfl, rfl, rfl, Nat.le_refl _, fun _ _ => rfl⟩⟩
  · have hpre' : Lib.hasPrefix (s.data.toList.drop p) [92, 117] = false := by simpa using hpre
    have hu : unitI s.data.toList p = -1 := by
      unfold unitI Cx.unit
      split
      · rename_i heq
        split at heq
        · rename_i hd
          rw [hd] at hpre; simp [Lib.hasPrefix] at hpre
        · cases heq
      · rfl
    have HU := Lib.hid hu
    have HC : Hid (Lib.hasPrefix (s.extract q s.size).data.toList [92, 117] = false) := by
      have := HT.out; exact Lib.hid (by rw [this]; exact hpre')
    clear hu hpre HT hpre'
    go_enter Tryz.func166, Tryz.ntmps166
    go_wp2
    go_quiet ((go_at_call 185; exact Calls.quiet_of_same (cutu_no _ _ HC.out)))
    go_wp2
    go_ret
    exact ⟨ret_int HU.out.symm, (Below.refl _ _).trans ⟨rfl, rfl, rfl, Nat.le_refl _, fun _ _ => rfl⟩⟩
end Go.Proofs.YtejlddimokmgjaaGreatDoor
namespace Go.Proofs.YtejlddimokmgjaaGreatDoor
open Go.RowKit

theorem simple_ix {c x : UInt8} (h : Cx.simple c = some x) : ∃ k : Nat, k < 8 ∧ ix [34, 92, 47, 98, 102, 110, 114, 116] c = k ∧ (⟨#[34, 92, 47, 8, 12, 10, 13, 9]⟩ : ByteArray).extract k (k + 1) = ⟨#[x]⟩ := by
  unfold Cx.simple at h
  by_cases h1 : c = 34
  · rw [if_pos h1] at h; injection h with h; subst h1; subst h; exact ⟨0, by decide, by decide, by rw [extract_list]; rfl⟩
  rw [if_neg h1] at h
  by_cases h2 : c = 92
  · rw [if_pos h2] at h; injection h with h; subst h2; subst h; exact ⟨1, by decide, by decide, by rw [extract_list]; rfl⟩
  rw [if_neg h2] at h
  by_cases h3 : c = 47
  · rw [if_pos h3] at h; injection h with h; subst h3; subst h; exact ⟨2, by decide, by decide, by rw [extract_list]; rfl⟩
  rw [if_neg h3] at h
  by_cases h4 : c = 98
  · rw [if_pos h4] at h; injection h with h; subst h4; subst h; exact ⟨3, by decide, by decide, by rw [extract_list]; rfl⟩
  rw [if_neg h4] at h
  by_cases h5 : c = 102
  · rw [if_pos h5] at h; injection h with h; subst h5; subst h; exact ⟨4, by decide, by decide, by rw [extract_list]; rfl⟩
  rw [if_neg h5] at h
  by_cases h6 : c = 110
  · rw [if_pos h6] at h; injection h with h; subst h6; subst h; exact ⟨5, by decide, by decide, by rw [extract_list]; rfl⟩
  rw [if_neg h6] at h
  by_cases h7 : c = 114
  · rw [if_pos h7] at h; injection h with h; subst h7; subst h; exact ⟨6, by decide, by decide, by rw [extract_list]; rfl⟩
  rw [if_neg h7] at h
  by_cases h8 : c = 116
  · rw [if_pos h8] at h; injection h with h; subst h8; subst h; exact ⟨7, by decide, by decide, by rw [extract_list]; rfl⟩
  rw [if_neg h8] at h
  cases h
theorem simple_no {c : UInt8} (h : Cx.simple c = none) : ix [34, 92, 47, 98, 102, 110, 114, 116] c = -1 := by
  refine ix_neg ?_
  intro hm
  simp only [List.mem_cons, List.not_mem_nil, or_false] at hm
  rcases hm with rfl | rfl | rfl | rfl | rfl | rfl | rfl | rfl <;> cases h

set_option maxHeartbeats 1000000 in
theorem escape_simple (s : ByteArray) (i : Nat) (m : Int) (b : Nat) (x : UInt8) (w : World) (h : Rd b s i m w) (hi : i + 1 < s.size) (hs : s.size ≤ 100000) (hx : Cx.simple s[i + 1] = some x) :
    Calls Tryz.prog 133 #[.pointer (some ⟨b, 0, none⟩)] w fun e w' => e = .returned (.string ⟨#[x]⟩) ∧ Rd b s (i + 2 : Nat) m w' ∧ Mv b w w' := by
  obtain ⟨k, hk8, hix, hsl⟩ := simple_ix hx
  have c0 := h.c0; have c1 := h.c1; have hf := h.fr 1
  have H2 : Hid (Rd b s (i + 2 : Nat) m (w.setCell ⟨b, 1, none⟩ (.int .i64 (i + 2)))) := Lib.hid (h.set1 (i + 2))
  have H := Lib.hid h; have HSL := Lib.hid hsl
  clear h hx hsl
  have HIX := Lib.hid hix; clear hix
  go_enter Tryz.func133, Tryz.ntmps133
  go_wp2_with fail
  refine (indexByte_calls _ _ _).mono ?_
  rintro e w' ⟨rfl, rfl⟩
  have h' : ix (⟨#[34, 92, 47, 98, 102, 110, 114, 116]⟩ : ByteArray).data.toList s[i + 1] = k := HIX.out
  rw [h']
  clear h'
  go_wp2
  go_ret
  exact ⟨ret_str HSL.out, H2.out, (Mv.refl b w).set (.inl rfl) _⟩

/-- Where no plain escape stands: what four digits say, and what four more say behind them. -/
def uniRes (i : Nat) (u lo : Int) : Except (Nat × Nat) (List UInt8 × Nat) :=
  if 55296 ≤ u ∧ u < 56320 ∧ 56320 ≤ lo ∧ lo < 57344 then .ok (Cx.enc (65536 + (u - 55296) * 1024 + (lo - 56320)).toNat, i + 12)
  else if u < 0 ∨ (55296 ≤ u ∧ u < 57344) then .error (7, i) else .ok (Cx.enc u.toNat, i + 6)
theorem escape_uni {s : List UInt8} {i : Nat} (h : (s[i + 1]?).bind Cx.simple = none) : Cx.escape s i = uniRes i (unitI s i) (unitI s (i + 6)) := by
  unfold Cx.escape uniRes
  rw [h]; simp only
  unfold unitI
  cases hu : Cx.unit s i with
  | none => simp
  | some v =>
    simp only
    by_cases hv : 55296 ≤ v ∧ v < 56320
    · rw [if_pos hv]
      cases hl : Cx.unit s (i + 6) with
      | none => simp only; rw [if_neg (by omega), if_pos (by omega)]
      | some lo =>
        simp only
        by_cases hlo : 56320 ≤ lo ∧ lo < 57344
        · have e : (65536 + ((v : Int) - 55296) * 1024 + ((lo : Int) - 56320)).toNat = 65536 + (v - 55296) * 1024 + (lo - 56320) := by omega
          rw [if_pos hlo, if_pos (by omega), e]
        · rw [if_neg hlo, if_neg (by omega), if_pos (by omega)]
    · rw [if_neg hv]
      by_cases h2 : 55296 ≤ v ∧ v < 57344
      · rw [if_pos h2, if_neg (by omega), if_pos (by omega)]
      · rw [if_neg h2, if_neg (by omega), if_neg (by omega)]; simp

theorem unitI_bd (s : List UInt8) (i : Nat) : -1 ≤ unitI s i ∧ unitI s i < 65536 := by
  unfold unitI
  split
  · rename_i v hv; have := Cx.unit_ok hv; omega
  · decide

set_option maxHeartbeats 8000000 in
/-- The part of 'escape' behind the look for a plain one. -/
theorem escape_digits (s : ByteArray) (i : Nat) (m : Int) (b : Nat) (w : World) (h : Rd b s i m w) (hg : Glb w) (hb8 : 8 ≤ b) (hi : i < s.size) (hs : s.size ≤ 100000) (hx : (s.data.toList[i + 1]?).bind Cx.simple = none) :
    Calls Tryz.prog 133 #[.pointer (some ⟨b, 0, none⟩)] w (Gives (Cx.escape s.data.toList i) (TextAt b s m) b w) := by
  rw [escape_uni hx]
  have c0 := h.c0; have c1 := h.c1; have hf := h.fr 1
  obtain ⟨u, hu⟩ : ∃ u, u = unitI s.data.toList i := ⟨_, rfl⟩
  obtain ⟨lo, hlo⟩ : ∃ lo, lo = unitI s.data.toList (i + 6) := ⟨_, rfl⟩
  have bu := unitI_bd s.data.toList i; have bl := unitI_bd s.data.toList (i + 6)
  rw [← hu] at bu; rw [← hlo] at bl
  rw [← hu, ← hlo]
  obtain ⟨bu0, bu1⟩ := bu; obtain ⟨bl0, bl1⟩ := bl
  have HU := Lib.hid hu; have HLO := Lib.hid hlo
  obtain ⟨W2, hW2⟩ : ∃ W2, W2 = (w.setCell ⟨b, 1, none⟩ (.int .i64 (i + 2))).setCell ⟨b, 1, none⟩ (.int .i64 (i + 6)) := ⟨_, rfl⟩
  have r6 : Rd b s ((i : Int) + 6) m W2 := by rw [hW2]; exact (h.set1 _).set1 _
  have g6 : Glb W2 := by rw [hW2]; exact (hg.set (by exact hb8) _).set (by exact hb8) _
  have m6 : Mv b w W2 := by rw [hW2]; exact ((Mv.refl b w).set (.inl rfl) _).set (.inl rfl) _
  have R6 := Lib.hid r6; have G6 := Lib.hid g6; have M6 := Lib.hid m6; have HW2 := Lib.hid hW2
  clear r6 g6 m6 hW2 h hg hu hlo
  have first : ∀ (K : Unit → Prop), True := fun _ => trivial
  clear first
  go_enter Tryz.func133, Tryz.ntmps133
  by_cases hi1 : i + 1 < s.size
  · have hc : Cx.simple s[i + 1] = none := by
      have : s.data.toList[i + 1]? = some s[i + 1] := by rw [List.getElem?_eq_getElem (show i + 1 < s.data.toList.length from hi1)]; rfl
      rw [this] at hx; exact hx
    have HIX := Lib.hid (simple_no hc)
    clear hx hc
    go_wp2_with fail
    refine (indexByte_calls _ _ _).mono ?_
    rintro e w' ⟨rfl, rfl⟩
    have h' : ix (⟨#[34, 92, 47, 98, 102, 110, 114, 116]⟩ : ByteArray).data.toList s[i + 1] = -1 := HIX.out
    rw [h']
    clear h'
    clear HIX hi1
    go_wp2_with fail
    rw [← HW2.out]
    refine (unit_calls s (i + 6) i m b _ R6.out G6.out (by omega) hs).mono ?_
    rintro e w3 ⟨rfl, q3⟩
    have r7 : Rd b s ((i : Int) + 6) m w3 := R6.out.below q3
    have g7 := G6.out.below q3
    have m7 := M6.out.below q3
    rw [← HU.out]
    have c17 := r7.c1; have c07 := r7.c0; have f17 := r7.fr 1
    have R7 := Lib.hid r7; have G7 := Lib.hid g7; have M7 := Lib.hid m7
    clear r7 g7 m7 q3 c0 c1 hf
    go_wp2_with fail
    refine (unit_calls s (i + 6) (i + 6) m b _ R7.out G7.out (by omega) hs).mono ?_
    rintro e w4 ⟨rfl, q4⟩
    have r8 : Rd b s ((i : Int) + 6) m w4 := R7.out.below q4
    have m8 := M7.out.below q4
    rw [← HLO.out]
    have c18 := r8.c1; have f18 := r8.fr 1
    have R8 := Lib.hid r8; have M8 := Lib.hid m8
    clear r8 m8 q4 c17 c07 f17
    by_cases hA : 55296 ≤ u ∧ u < 56320 ∧ 56320 ≤ lo ∧ lo < 57344
    · obtain ⟨a1, a2, a3, a4⟩ := hA
      have hres : uniRes i u lo = .ok (Cx.enc (65536 + (u - 55296) * 1024 + (lo - 56320)).toNat, i + 12) := by unfold uniRes; rw [if_pos ⟨a1, a2, a3, a4⟩]
      have HRES := Lib.hid hres; clear hres
      go_wp2_with fail
      refine (append_calls _ _ (by omega) (by omega) (by omega)).mono ?_
      rintro e w5 ⟨rfl, rfl⟩
      go_wp2
      go_ret
      refine Gives.ok HRES.out (M8.out.set (.inl rfl) _) ⟨?_, ?_⟩
      · exact ret_str (by rw [show 65536 + (u - 55296) * 1024 + lo - 56320 = 65536 + (u - 55296) * 1024 + (lo - 56320) by omega])
      · have h12 := R8.out.set1 ((i : Int) + 6 + 6)
        rw [show ((i + 12 : Nat) : Int) = (i : Int) + 6 + 6 by omega]; exact h12
    by_cases hB : u < 0 ∨ (55296 ≤ u ∧ u < 57344)
    · have hres : uniRes i u lo = .error (7, i) := by unfold uniRes; rw [if_neg hA, if_pos hB]
      have HRES := Lib.hid hres; clear hres
      have hsplit : (u < 0 ∧ u < 55296) ∨ (0 ≤ u ∧ 56320 ≤ u ∧ u < 57344) ∨ (0 ≤ u ∧ 55296 ≤ u ∧ u < 56320 ∧ lo < 56320) ∨ (0 ≤ u ∧ 55296 ≤ u ∧ u < 56320 ∧ 56320 ≤ lo ∧ 57344 ≤ lo) := by omega
      clear hA hB
      rcases hsplit with ⟨k1, k2⟩ | ⟨k1, k2, k3⟩ | ⟨k1, k2, k3, k4⟩ | ⟨k1, k2, k3, k4, k5⟩
      all_goals
        go_wp2_with (go_at_call 49; refine (give_calls _ _ _ _).mono ?_; rintro e w' ⟨rfl, rfl⟩)
        exact ⟨rfl, Gives.err HRES.out M8.out⟩
    · have hres : uniRes i u lo = .ok (Cx.enc u.toNat, i + 6) := by unfold uniRes; rw [if_neg hA, if_neg hB]
      have HRES := Lib.hid hres; clear hres
      have hsplit : (0 ≤ u ∧ u < 55296) ∨ (0 ≤ u ∧ 57344 ≤ u) := by omega
      clear hA hB
      rcases hsplit with ⟨k1, k2⟩ | ⟨k1, k2⟩
      all_goals
        go_wp2_with fail
        refine (append_calls u _ (by omega) (by omega) (by omega)).mono ?_
        rintro e w5 ⟨rfl, rfl⟩
        go_wp2
        go_ret
        refine Gives.ok HRES.out M8.out ⟨rfl, ?_⟩
        have h6 := R8.out
        rw [show ((i + 6 : Nat) : Int) = (i : Int) + 6 by omega]; exact h6
  · clear hx
    go_wp2_with fail
    rw [← HW2.out]
    refine (unit_calls s (i + 6) i m b _ R6.out G6.out (by omega) hs).mono ?_
    rintro e w3 ⟨rfl, q3⟩
    have r7 : Rd b s ((i : Int) + 6) m w3 := R6.out.below q3
    have g7 := G6.out.below q3
    have m7 := M6.out.below q3
    rw [← HU.out]
    have c17 := r7.c1; have c07 := r7.c0; have f17 := r7.fr 1
    have R7 := Lib.hid r7; have G7 := Lib.hid g7; have M7 := Lib.hid m7
    clear r7 g7 m7 q3 c0 c1 hf
    go_wp2_with fail
    refine (unit_calls s (i + 6) (i + 6) m b _ R7.out G7.out (by omega) hs).mono ?_
    rintro e w4 ⟨rfl, q4⟩
    have r8 : Rd b s ((i : Int) + 6) m w4 := R7.out.below q4
    have m8 := M7.out.below q4
    rw [← HLO.out]
    have c18 := r8.c1; have f18 := r8.fr 1
    have R8 := Lib.hid r8; have M8 := Lib.hid m8
    clear r8 m8 q4 c17 c07 f17
    by_cases hA : 55296 ≤ u ∧ u < 56320 ∧ 56320 ≤ lo ∧ lo < 57344
    · obtain ⟨a1, a2, a3, a4⟩ := hA
      have hres : uniRes i u lo = .ok (Cx.enc (65536 + (u - 55296) * 1024 + (lo - 56320)).toNat, i + 12) := by unfold uniRes; rw [if_pos ⟨a1, a2, a3, a4⟩]
      have HRES := Lib.hid hres; clear hres
      go_wp2_with fail
      refine (append_calls _ _ (by omega) (by omega) (by omega)).mono ?_
      rintro e w5 ⟨rfl, rfl⟩
      go_wp2
      go_ret
      refine Gives.ok HRES.out (M8.out.set (.inl rfl) _) ⟨?_, ?_⟩
      · exact ret_str (by rw [show 65536 + (u - 55296) * 1024 + lo - 56320 = 65536 + (u - 55296) * 1024 + (lo - 56320) by omega])
      · have h12 := R8.out.set1 ((i : Int) + 6 + 6)
        rw [show ((i + 12 : Nat) : Int) = (i : Int) + 6 + 6 by omega]; exact h12
    by_cases hB : u < 0 ∨ (55296 ≤ u ∧ u < 57344)
    · have hres : uniRes i u lo = .error (7, i) := by unfold uniRes; rw [if_neg hA, if_pos hB]
      have HRES := Lib.hid hres; clear hres
      have hsplit : (u < 0 ∧ u < 55296) ∨ (0 ≤ u ∧ 56320 ≤ u ∧ u < 57344) ∨ (0 ≤ u ∧ 55296 ≤ u ∧ u < 56320 ∧ lo < 56320) ∨ (0 ≤ u ∧ 55296 ≤ u ∧ u < 56320 ∧ 56320 ≤ lo ∧ 57344 ≤ lo) := by omega
      clear hA hB
      rcases hsplit with ⟨k1, k2⟩ | ⟨k1, k2, k3⟩ | ⟨k1, k2, k3, k4⟩ | ⟨k1, k2, k3, k4, k5⟩
      all_goals
        go_wp2_with (go_at_call 49; refine (give_calls _ _ _ _).mono ?_; rintro e w' ⟨rfl, rfl⟩)
        exact ⟨rfl, Gives.err HRES.out M8.out⟩
    · have hres : uniRes i u lo = .ok (Cx.enc u.toNat, i + 6) := by unfold uniRes; rw [if_neg hA, if_neg hB]
      have HRES := Lib.hid hres; clear hres
      have hsplit : (0 ≤ u ∧ u < 55296) ∨ (0 ≤ u ∧ 57344 ≤ u) := by omega
      clear hA hB
      rcases hsplit with ⟨k1, k2⟩ | ⟨k1, k2⟩
      all_goals
        go_wp2_with fail
        refine (append_calls u _ (by omega) (by omega) (by omega)).mono ?_
        rintro e w5 ⟨rfl, rfl⟩
        go_wp2
        go_ret
        refine Gives.ok HRES.out M8.out ⟨rfl, ?_⟩
        have h6 := R8.out
        rw [show ((i + 6 : Nat) : Int) = (i : Int) + 6 by omega]; exact h6

end Go.Proofs.YtejlddimokmgjaaGreatDoor
namespace Go.Proofs.YtejlddimokmgjaaGreatDoor
open Go.RowKit

theorem escape_calls (s : ByteArray) (i : Nat) (m : Int) (b : Nat) (w : World) (h : Rd b s i m w) (hg : Glb w) (hb8 : 8 ≤ b) (hi : i < s.size) (hs : s.size ≤ 100000) :
    Calls Tryz.prog 133 #[.pointer (some ⟨b, 0, none⟩)] w (Gives (Cx.escape s.data.toList i) (TextAt b s m) b w) := by
  cases hx : (s.data.toList[i + 1]?).bind Cx.simple with
  | none => exact escape_digits s i m b w h hg hb8 hi hs hx
  | some x =>
    have hi1 : i + 1 < s.size := by
      rcases Nat.lt_or_ge (i + 1) s.size with g | g
      · exact g
      · rw [List.getElem?_eq_none (show s.data.toList.length ≤ i + 1 from g)] at hx; cases hx
    have hx' : Cx.simple s[i + 1] = some x := by
      have : s.data.toList[i + 1]? = some s[i + 1] := by rw [List.getElem?_eq_getElem (show i + 1 < s.data.toList.length from hi1)]; rfl
      rw [this] at hx; exact hx
    refine (escape_simple s i m b x w h hi1 hs hx').mono ?_
    rintro e w' ⟨rfl, h1, h2⟩
    have hr : Cx.escape s.data.toList i = .ok ([x], i + 2) := by unfold Cx.escape; rw [hx]
    exact Gives.ok hr h2 ⟨rfl, h1⟩
theorem escape_short {s b : List UInt8} {i j : Nat} (h : Cx.escape s i = .ok (b, j)) : i + b.length ≤ j := by
  have he : ∀ v, (Cx.enc v).length ≤ 4 := fun v => by unfold Cx.enc; repeat' split
                                                      all_goals simp
  unfold Cx.escape at h
  split at h
  · injection h with h; injection h with h1 h2; subst h1; subst h2; simp
  · split at h
    · cases h
    · split at h
      · split at h
        · cases h
        · split at h
          · injection h with h; injection h with h1 h2; subst h1; subst h2
            have := he; exact Nat.add_le_add_left (Nat.le_trans (he _) (by decide)) _
          · cases h
      · split at h
        · cases h
        · injection h with h; injection h with h1 h2; subst h1; subst h2
          exact Nat.add_le_add_left (Nat.le_trans (he _) (by decide)) _

/-- A builder of the call's own, at a block. -/
def Bld (B c : Nat) (l : List UInt8) (w : World) : Prop := Lib.IsBuilderF 93 5 B c (Lib.byteCells l) w
theorem Bld.kept {B c : Nat} {l : List UInt8} {w w' : World} {b : Nat} (h : Bld B c l w) (k : Mv b w w') (hb : b < B) : Bld B c l w' := by
  have key : ∀ p, Lib.BuilderAtF 93 5 B c p (Lib.byteCells l) w → Lib.BuilderAtF 93 5 B c p (Lib.byteCells l) w' := by
    intro p ⟨hB, v, hbk, hown, hne⟩
    refine ⟨hB, v, k.heap hbk (by omega), hown.kept k ?_, hne⟩
    right; intro e
    have := hown.lt b e; omega
  exact h.imp (key _) (key _)
theorem Bld.drewN {B c : Nat} {l : List UInt8} {w : World} (h : Bld B c l w) (n : Nat) : Bld B c l (w.drewN n) := by
  have key : ∀ p, Lib.BuilderAtF 93 5 B c p (Lib.byteCells l) w → Lib.BuilderAtF 93 5 B c p (Lib.byteCells l) (w.drewN n) := fun p ⟨hB, v, hbk, hown, hne⟩ => ⟨hB, v, hbk, hown, hne⟩
  exact h.imp (key _) (key _)
theorem Bld.lt {B c : Nat} {l : List UInt8} {w : World} (h : Bld B c l w) : B ≤ c ∧ c < w.heap.size := by
  have key : ∀ p, Lib.BuilderAtF 93 5 B c p (Lib.byteCells l) w → B ≤ c ∧ c < w.heap.size := by
    intro p ⟨hB, v, hbk, _, _⟩
    refine ⟨hB, ?_⟩
    rcases Nat.lt_or_ge c w.heap.size with h' | h'
    · exact h'
    · simp [Array.getElem?_eq_none h'] at hbk
  exact h.elim (key _) (key _)
theorem Bld.fresh (w : World) : Bld w.heap.size w.heap.size [] (w.alloc (.cells #[.pointer none, .slice none 0 0] 93)) :=
  .inl ⟨Nat.le_refl _, .slice none 0 0, heap_alloc_new w _, World.ownsRowF_nil _ _ _ _, by simp [Value.ownBlock]⟩

/-- A write to a builder of the call's own. -/
theorem writeString_calls (B c : Nat) (l : List UInt8) (x : ByteArray) (w : World) (h : Bld B c l w) (hlen : l.length + x.size ≤ 140737488355328) (hB : B ≤ w.heap.size) :
    Calls Tryz.prog 52 #[.pointer (some ⟨c, 0, none⟩), .string x] w fun e w' => (∃ v, e = .returned (.tuple #[v, .nilIface])) ∧ Bld B c (l ++ x.data.toList) w' ∧ Below B w w' ∧ Lib.OthersKept 5 (some c) w w' := by
  refine (writeString_k B c _ x w h (by rw [Lib.byteCells_length]; exact hlen) hB).mono ?_
  rintro e w' ⟨rfl, h1, h2, h3⟩
  exact ⟨⟨_, rfl⟩, .inr (by rw [Lib.byteCells_append, ← Lib.strCells_eq]; exact h1), h2, h3⟩
theorem string_calls (B c : Nat) (l : List UInt8) (w : World) (h : Bld B c l w) (hB : B ≤ w.heap.size) :
    Calls Tryz.prog 55 #[.pointer (some ⟨c, 0, none⟩)] w fun e w' => e = .returned (.string ⟨l.toArray⟩) ∧ Bld B c l w' ∧ Below B w w' ∧ Lib.OthersKept 5 (some c) w w' :=
  Tryz.Builder_String_any_k B c l w h hB
theorem Mv.belowB {b : Nat} {w0 w w' : World} (h : Mv b w0 w) (k : Below w0.heap.size w w') : Mv b w0 w' :=
  ⟨k.os.trans h.os, k.tape.trans h.tape, k.output.trans h.output, Nat.le_trans h.size k.size, fun i hi hn => (k.block i hi).trans (h.block i hi hn)⟩
theorem Rd.belowB {b B : Nat} {s : ByteArray} {i m : Int} {w w' : World} (h : Rd b s i m w) (k : Below B w w') (hb : b < B) : Rd b s i m w' := by
  unfold Rd; rw [k.block _ hb]; exact h
theorem Glb.belowB {B : Nat} {w w' : World} (h : Glb w) (k : Below B w w') (hB : 8 ≤ B) : Glb w' := h.same fun a _ ha hc => (k.cell (show a.block < B by omega)).trans hc

set_option maxRecDepth 100000 in
set_option maxHeartbeats 4000000 in
theorem text_calls (s : ByteArray) (i : Nat) (m : Int) (b : Nat) (w : World) (h : Rd b s i m w) (hg : Glb w) (hb8 : 8 ≤ b) (hle : i ≤ s.size) (hs : s.size ≤ 100000) :
    Calls Tryz.prog 86 #[.pointer (some ⟨b, 0, none⟩)] w (Gives (Cx.text s.data.toList i) (TextAt b s m) b w) := by
  have hs' : s.size ≤ maxLen := by unfold maxLen; omega
  have hbl := h.lt
  by_cases hq : Cx.peek s.data.toList i = 34
  · have hlt : i < s.size := Cx.peek_lt (s := s.data.toList) (by rw [hq]; decide)
    have hres : Cx.text s.data.toList i = Cx.textN s.data.toList (s.size - i) (i + 1) [] := by unfold Cx.text; rw [if_pos hq]; rfl
    rw [hres]
    obtain ⟨RES, hRES⟩ : ∃ RES, RES = Cx.textN s.data.toList (s.size - i) (i + 1) [] := ⟨_, rfl⟩
    rw [← hRES]
    have HRES := Lib.hid hRES; clear hRES
    have hsi : s[i] = 34 := by rw [← peek_size hlt]; exact hq
    have ha : Rd b s i m (w.alloc (.cells #[.pointer none, .slice none 0 0] 93)) := h.alloc _
    have hga := hg.alloc (.cells #[.pointer none, .slice none 0 0] 93)
    have hba := Bld.fresh w
    have HA := Lib.hid ha; have HG := Lib.hid hga; have HB := Lib.hid hba
    have hma : Mv b w (w.alloc (.cells #[.pointer none, .slice none 0 0] 93)) := (Mv.refl b w).alloc _
    have HM := Lib.hid hma
    clear h hg hq hres ha hga hba hma
    have HSI := Lib.hid hsi; clear hsi
    go_enter Tryz.func86, Tryz.ntmps86
    go_wp2_with fail
    have ht := take_ok s i m b _ HA.out hlt hs'
    rw [HSI.out] at ht
    refine (show Calls Tryz.prog 132 #[.pointer (some ⟨b, 0, none⟩), .int .u8 34] _ _ from ht).mono ?_
    clear ht
    rintro e w1 ⟨rfl, k1, k2⟩
    have kg := HG.out.mv k2 hb8
    have kb := HB.out.kept k2 hbl
    have km := HM.out.trans k2
    have KR := Lib.hid k1; have KG := Lib.hid kg; have KB := Lib.hid kb; have KM := Lib.hid km
    clear k1 k2 kg kb km HA HG HB HM HSI
    go_wp2
    go_loopg [] (s.size - i) (fun q wr => ∃ (j : Nat) (acc : List UInt8), 0 < q ∧ s.size < j + q ∧ j ≤ s.size ∧ acc.length ≤ j ∧ Hid (RES = Cx.textN s.data.toList q j acc) ∧ Rd b s j m wr ∧ Glb wr ∧ Bld w.heap.size w.heap.size acc wr ∧ Mv b w wr)
    case atStart => exact ⟨i + 1, [], by omega, by omega, by omega, by simp, HRES.out, by have := KR.out; rw [show ((i + 1 : Nat) : Int) = (i : Int) + 1 by omega]; exact this, KG.out, KB.out, KM.out⟩
    case round =>
      obtain ⟨j, acc, hq0, hq, hj, hacc, HR, hrd, hgl, hbd, hmv⟩ := hrel
      have c0 := hrd.c0; have c1 := hrd.c1; have hf := hrd.fr 1
      have RD := Lib.hid hrd; have GL := Lib.hid hgl; have BD := Lib.hid hbd; have MV := Lib.hid hmv
      clear hrd hgl hbd hmv KR KG KB KM HRES
      obtain ⟨q, rfl⟩ : ∃ q, gk = q + 1 := ⟨gk - 1, by omega⟩
      have HR2 := HR.out
      rw [Cx.textN_succ] at HR2
      clear HR hq0
      have HR := Lib.hid HR2; clear HR2
      go_wp2_with fail
      refine (peek_calls s j m b _ RD.out hs').mono ?_
      rintro e w2 ⟨rfl, n2, rfl⟩
      rcases Nat.lt_or_ge j s.size with hjs | hjs
      · have hpk : Cx.peek s.data.toList j = s[j] := peek_size hjs
        rw [hpk]
        have HR3 := HR.out
        rw [hpk] at HR3
        have HPK := Lib.hid hpk; clear hpk HR
        by_cases h32 : s[j] < 32
        · rw [if_pos h32] at HR3
          have i32 : s[j].toNat < 32 := by rw [UInt8.lt_iff_toNat_lt] at h32; exact h32
          have HRF := Lib.hid HR3; clear HR3 h32
          go_wp2_with fail
          go_quiet (fail)
          go_wp2_with (go_at_call 49; refine (give_calls _ _ _ _).mono ?_; rintro e w' ⟨rfl, rfl⟩)
          exact ⟨rfl, Gives.err HRF.out (MV.out.drewN _)⟩
        · rw [if_neg h32] at HR3
          have i32 : ¬ ((s[j].toNat : Int) < 32) := by rw [UInt8.lt_iff_toNat_lt] at h32; simp at h32 ⊢; omega
          have d32 : decide ((s[j].toNat : Int) < 32) = false := by simpa using i32
          have dne : ((j : Int) == (s.size : Int)) = false := by simp; omega
          clear h32
          by_cases h34 : s[j] = 34
          · rw [if_pos h34] at HR3
            have HRF := Lib.hid HR3; clear HR3
            have i34 : ((s[j].toNat : Int) == 34) = true := by rw [h34]; rfl
            clear h34
            go_wp2_with fail
            go_quiet (fail)
            obtain ⟨N1, rfl⟩ : ∃ N1, N1 = nq := ⟨nq, rfl⟩
            go_wp2_with fail
            go_quiet (fail)
            obtain ⟨N2, rfl⟩ : ∃ N2, N2 = nq := ⟨nq, rfl⟩
            go_wp2_with fail
            have mv1 := (MV.out.drewN (n2 + N1 + N2)).set (a := ⟨b, 1, none⟩) (.inl rfl) (.int .i64 (j + 1))
            have bd1 := BD.out.kept (((Mv.refl b wr).drewN (n2 + N1 + N2)).set (a := ⟨b, 1, none⟩) (.inl rfl) (.int .i64 (j + 1))) hbl
            have rd1 := (RD.out.drewN (n2 + N1 + N2)).set1 (j + 1)
            refine (string_calls w.heap.size w.heap.size acc _ bd1 mv1.size).mono ?_
            rintro e w5 ⟨rfl, _, k2, _⟩
            have rd2 := rd1.belowB k2 hbl
            have mv2 := mv1.belowB k2
            have RD2 := Lib.hid rd2; have MV2 := Lib.hid mv2
            clear rd1 rd2 mv1 mv2 bd1 k2
            go_wp2
            go_ret
            exact Gives.ok HRF.out MV2.out ⟨rfl, RD2.out⟩
          · rw [if_neg h34] at HR3
            have i34 : ((s[j].toNat : Int) == 34) = false := by
              rw [beq_eq_false_iff_ne]; intro e; exact h34 (UInt8.toNat_inj.1 (by simp; omega))
            clear h34
            by_cases h92 : s[j] = 92
            · rw [if_pos h92] at HR3
              have i92 : ((s[j].toNat : Int) == 92) = true := by rw [h92]; rfl
              clear h92
              have HRF := Lib.hid HR3; clear HR3
              go_wp2_with fail
              go_quiet (fail)
              obtain ⟨N1, rfl⟩ : ∃ N1, N1 = nq := ⟨nq, rfl⟩
              go_wp2_with fail
              go_quiet (fail)
              obtain ⟨N2, rfl⟩ : ∃ N2, N2 = nq := ⟨nq, rfl⟩
              go_wp2_with fail
              refine (escape_calls s j m b _ (RD.out.drewN _) (GL.out.drewN _) hb8 hjs hs).mono ?_
              intro e w5 hgv
              cases hes : Cx.escape s.data.toList j with
              | error x =>
                obtain ⟨rfl, k2⟩ := hgv.of_err hes
                have hr := HRF.out
                rw [hes] at hr
                exact ⟨rfl, Gives.err hr ((MV.out.drewN (n2 + N1 + N2)).trans k2)⟩
              | ok a =>
                obtain ⟨bts, j'⟩ := a
                obtain ⟨⟨rfl, k1⟩, k2⟩ := hgv.of_ok hes
                have hr := HRF.out
                rw [hes] at hr
                have hsh := escape_short hes
                have hok := Cx.escape_ok hes
                have hjl : j' ≤ s.size := hok.2.1
                have hjj : j < j' := hok.1
                have bd1 := (BD.out.drewN (n2 + N1 + N2)).kept k2 hbl
                have mv1 := (MV.out.drewN (n2 + N1 + N2)).trans k2
                have gl1 := (GL.out.drewN (n2 + N1 + N2)).mv k2 hb8
                have HRR := Lib.hid hr; have K1 := Lib.hid k1; have BD1 := Lib.hid bd1; have MV1 := Lib.hid mv1; have GL1 := Lib.hid gl1
                clear hr hes hok k1 k2 bd1 mv1 gl1 hgv HRF
                go_wp2_with fail
                refine (writeString_calls w.heap.size w.heap.size acc ⟨bts.toArray⟩ _ BD1.out (by have : (⟨bts.toArray⟩ : ByteArray).size = bts.length := by simp [ByteArray.size]
                                                                                                  omega) MV1.out.size).mono ?_
                rintro e w6 ⟨⟨v6, rfl⟩, k3, k4, _⟩
                have rd2 := K1.out.belowB k4 hbl
                have mv2 := MV1.out.belowB k4
                have gl2 := GL1.out.belowB k4 (by omega)
                have K3 := Lib.hid k3; have RD2 := Lib.hid rd2; have MV2 := Lib.hid mv2; have GL2 := Lib.hid gl2
                clear k3 k4 rd2 mv2 gl2
                go_wp2
                go_roundg q
                case measure => omega
                case rel =>
                  exact ⟨j', acc ++ bts, by omega, by omega, hjl, by simp; omega, HRR.out, RD2.out, GL2.out, K3.out, MV2.out⟩
            · rw [if_neg h92] at HR3
              have i92 : ((s[j].toNat : Int) == 92) = false := by
                rw [beq_eq_false_iff_ne]; intro e; exact h92 (UInt8.toNat_inj.1 (by simp; omega))
              clear h92
              have hdl : (s.extract j s.size).data.toList = s.data.toList.drop j := by
                rw [extract_list]; simp only; rw [List.take_of_length_le (by simp)]
              have hds : (s.extract j s.size).size ≠ 0 := by
                rw [Lib.size_eq, hdl]; simp; omega
              by_cases hz : Cx.runeLen (s.data.toList.drop j) = 0
              · rw [if_pos hz] at HR3
                have HRF := Lib.hid HR3; clear HR3
                have HZ : Hid (Cx.runeLen (s.extract j s.size).data.toList = 0) := by rw [hdl]; exact hz
                have HDS := Lib.hid hds; clear hz hdl hds
                go_wp2_with fail
                go_quiet (fail)
                obtain ⟨N1, rfl⟩ : ∃ N1, N1 = nq := ⟨nq, rfl⟩
                go_wp2_with fail
                go_quiet (fail)
                obtain ⟨N2, rfl⟩ : ∃ N2, N2 = nq := ⟨nq, rfl⟩
                go_wp2_with fail
                go_region_held3 (fun w' => w'.cell? ⟨b, 0, none⟩ = some (.string s) ∧ w'.cell? ⟨b, 1, none⟩ = some (.int .i64 j)) (first | exact ⟨c0, c1⟩ | exact ⟨(hb7.cell RD.out.lt).trans c0, (hb7.cell RD.out.lt).trans c1⟩ | go_keep)
                  (first | (go_at_call 134; refine (rune_bad _ _ (GL.out.drewN _) HDS.out HZ.out).mono ?_; rintro e w7 ⟨rfl, hb7⟩))
                have mv7 := (MV.out.drewN (n2 + N1 + N2 + 1)).below hb7
                have MV7 := Lib.hid mv7
                have d1 : w7.cell? ⟨b, 1, none⟩ = some (.int .i64 j) := (hb7.cell RD.out.lt).trans c1
                clear mv7 hb7 c0 c1 hf
                go_wp2_with (go_at_call 49; refine (give_calls _ _ _ _).mono ?_; rintro e w' ⟨rfl, rfl⟩)
                exact ⟨rfl, Gives.err HRF.out MV7.out⟩
              · rw [if_neg hz] at HR3
                have hle4 := Cx.runeLen_le (s.data.toList.drop j)
                have HZ : Hid (Cx.runeLen (s.extract j s.size).data.toList ≠ 0) := by rw [hdl]; exact hz
                obtain ⟨rl, hrl⟩ : ∃ rl, rl = Cx.runeLen (s.extract j s.size).data.toList := ⟨_, rfl⟩
                have hrl2 : Cx.runeLen (s.data.toList.drop j) = rl := by rw [hrl, hdl]
                rw [hrl2] at HR3 hle4 hz
                have hrl0 : 0 < rl := by omega
                have hrl4 : rl ≤ 4 := hle4.2
                have hjr : j + rl ≤ s.size := by
                  have := hle4.1; rw [List.length_drop] at this; simp at this; omega
                have HRF := Lib.hid HR3; have HRL := Lib.hid hrl
                clear HR3 hdl hds hrl hrl2 hle4 hz
                go_wp2_with fail
                go_quiet (fail)
                obtain ⟨N1, rfl⟩ : ∃ N1, N1 = nq := ⟨nq, rfl⟩
                go_wp2_with fail
                go_quiet (fail)
                obtain ⟨N2, rfl⟩ : ∃ N2, N2 = nq := ⟨nq, rfl⟩
                go_wp2_with fail
                have hrg := rune_good (s.extract j s.size)
                rw [← HRL.out] at hrg
                have HRG := Lib.hid hrg; clear hrg
                go_region_held3 (fun w' => w'.cell? ⟨b, 0, none⟩ = some (.string s) ∧ w'.cell? ⟨b, 1, none⟩ = some (.int .i64 j)) (first | exact ⟨c0, c1⟩ | exact ⟨(hb7.cell RD.out.lt).trans c0, (hb7.cell RD.out.lt).trans c1⟩ | go_keep)
                  (first | (go_at_call 134; refine (HRG.out _ (GL.out.drewN _) (by rw [HRL.out]; exact HZ.out)).mono ?_; rintro e w7 ⟨⟨v, hv0, rfl⟩, hb7⟩))
                have mv7 := (MV.out.drewN (n2 + N1 + N2 + 1)).below hb7
                have rd7 := (RD.out.drewN (n2 + N1 + N2 + 1)).below hb7
                have gl7 := (GL.out.drewN (n2 + N1 + N2 + 1)).below hb7
                have bd7 := (BD.out.drewN (n2 + N1 + N2 + 1)).kept ((Mv.refl b _).below hb7) hbl
                have d0 := rd7.c0; have d1 := rd7.c1; have df := rd7.fr 1
                have MV7 := Lib.hid mv7; have RD7 := Lib.hid rd7; have GL7 := Lib.hid gl7; have BD7 := Lib.hid bd7
                clear mv7 rd7 gl7 bd7 hb7 c0 c1 hf HRG
                go_wp2_with fail
                have hsz : (s.extract j (j + rl)).size ≤ 100000 := by rw [Lib.size_eq, extract_list]; simp; omega
                have e1 : IntKind.i64.wrap ((j : Int) + rl) = (j : Int) + rl := IntWalk.i64_in _ (by omega)
                have e2 : (0 : Int) ≤ (j : Int) + rl := by omega
                have e4 : (j : Int) + rl ≤ (s.size : Int) := by omega
                have e5 : (j : Int) ≤ (j : Int) + rl := by omega
                have e3 : ((j : Int) + rl).toNat = j + rl := by omega
                go_region_held3 (fun w' => w'.cell? ⟨b, 0, none⟩ = some (.string s) ∧ w'.cell? ⟨b, 1, none⟩ = some (.int .i64 j)) (first | exact ⟨d0, d1⟩ | exact ⟨(k4.cell hbl).trans d0, (k4.cell hbl).trans d1⟩ | go_keep)
                  (first | (go_at_call 52; refine (writeString_calls w.heap.size w.heap.size acc _ _ (BD7.out.drewN _) (by omega) ?_).mono ?_; (exact MV7.out.size); rintro e w8 ⟨⟨v6, rfl⟩, k3, k4, _⟩))
                have mv8 := (MV7.out.drewN 1).belowB k4
                have rd8 := (RD7.out.drewN 1).belowB k4 hbl
                have gl8 := (GL7.out.drewN 1).belowB k4 (by omega)
                have p1 := rd8.c1; have pf := rd8.fr 1
                have MV8 := Lib.hid mv8; have RD8 := Lib.hid rd8; have GL8 := Lib.hid gl8; have BD8 := Lib.hid k3
                clear mv8 rd8 gl8 k3 k4 d0 d1 df e1 e2 e3 e4 e5
                go_wp2
                go_roundg q
                case measure => omega
                case rel =>
                  have hx : (s.extract j (j + rl)).data.toList = (s.data.toList.drop j).take rl := by
                    rw [extract_list, show j + rl - j = rl by omega]
                  have hb9 := BD8.out.kept ((Mv.refl b _).set (a := ⟨b, 1, none⟩) (.inl rfl) (.int .i64 ((j : Int) + rl))) hbl
                  rw [hx] at hb9
                  have hr9 := RD8.out.set1 ((j : Int) + rl)
                  rw [show (j : Int) + rl = ((j + rl : Nat) : Int) by omega] at hb9 hr9 ⊢
                  refine ⟨j + rl, _, by omega, by omega, hjr, ?_, HRF.out, hr9, GL8.out.set hb8 _, hb9, MV8.out.set (.inl rfl) _⟩
                  have := List.length_take_le rl (s.data.toList.drop j)
                  rw [List.length_append]; omega
      · have hjz : j = s.size := by omega
        have hpk : Cx.peek s.data.toList j = 0 := Cx.peek_end (s := s.data.toList) hjs
        rw [hpk]
        have HR3 := HR.out
        rw [hpk, if_pos (by decide)] at HR3
        have HRF := Lib.hid HR3
        have dlt : decide (j < s.size) = false := by simp; omega
        subst hjz
        have deq : ((s.size : Int) == (s.size : Int)) = true := by simp
        clear HR3 hpk HR hjs
        go_wp2_with fail
        go_quiet (fail)
        go_wp2_with fail
        go_quiet (fail)
        go_wp2_with (go_at_call 49; refine (give_calls _ _ _ _).mono ?_; rintro e w' ⟨rfl, rfl⟩)
        exact ⟨rfl, Gives.err HRF.out (MV.out.drewN _)⟩
  · have hres : Cx.text s.data.toList i = .error (7, i) := by unfold Cx.text; rw [if_neg hq]
    have HRES := Lib.hid hres
    have ha : Rd b s i m (w.alloc (.cells #[.pointer none, .slice none 0 0] 93)) := h.alloc _
    have hma : Mv b w (w.alloc (.cells #[.pointer none, .slice none 0 0] 93)) := (Mv.refl b w).alloc _
    have HA := Lib.hid ha; have HM := Lib.hid hma
    have HQ := Lib.hid hq
    clear h hg hq hres ha hma
    go_enter Tryz.func86, Tryz.ntmps86
    go_wp2_with fail
    refine (take_bad s i m b 34 _ HA.out HQ.out hle hs').mono ?_
    rintro e w1 ⟨rfl, h1⟩
    exact ⟨rfl, Gives.err HRES.out (HM.out.trans h1)⟩
end Go.Proofs.YtejlddimokmgjaaGreatDoor
namespace Go.Proofs.YtejlddimokmgjaaGreatDoor
open Go.RowKit

/-- A slice value whose elements' cells are xs, in a block that the second argument lets be. -/
def Row (w : World) (ok : Nat → Prop) (v : Value) (n : Nat) (xs : List Value) : Prop :=
  (n = 0 ∧ xs = [] ∧ ∃ a cap, v = .slice a 0 cap) ∨ (0 < n ∧ ∃ g o cap, v = .slice (some ⟨g, o, none⟩) n cap ∧ n ≤ cap ∧ ok g ∧ g < w.heap.size ∧ ∀ j u, xs[j]? = some u → w.cell? ⟨g, o + j, none⟩ = some u)

def strV (t : List UInt8) : Value := .string ⟨t.toArray⟩

mutual
/-- Five cells hold a value, whose lists lie in blocks that the second argument lets be. -/
def JAt (w : World) (ok : Nat → Prop) : Cx.J → List Value → Prop
  | .mk k is t ns ks, cs => ∃ sn sk : Value, cs = [.int .i64 k, .bool is, strV t, sn, sk] ∧ Row w ok sn ns.length (ns.map strV) ∧ ∃ css : List (List Value), JsAt w ok ks css ∧ Row w ok sk ks.length css.flatten
def JsAt (w : World) (ok : Nat → Prop) : List Cx.J → List (List Value) → Prop
  | [], css => css = []
  | k :: ks, css => ∃ c cs, css = c :: cs ∧ JAt w ok k c ∧ JsAt w ok ks cs
end

theorem Row.kept {w w' : World} {ok ok' : Nat → Prop} {v : Value} {n : Nat} {xs : List Value} (h : Row w ok v n xs) (hs : w.heap.size ≤ w'.heap.size) (hk : ∀ g, ok g → g < w.heap.size → w'.heap[g]? = w.heap[g]? ∧ ok' g) : Row w' ok' v n xs := by
  rcases h with h | ⟨hn, g, o, cap, hv, hnc, hg, hl, hc⟩
  · exact .inl h
  · exact .inr ⟨hn, g, o, cap, hv, hnc, (hk g hg hl).2, by omega, fun j u hu => (World.cell?_of_block (w := w) (hk g hg hl).1).trans (hc j u hu)⟩
mutual
theorem JAt.kept {w w' : World} {ok ok' : Nat → Prop} (hs : w.heap.size ≤ w'.heap.size) (hk : ∀ g, ok g → g < w.heap.size → w'.heap[g]? = w.heap[g]? ∧ ok' g) : ∀ (v : Cx.J) (cs : List Value), JAt w ok v cs → JAt w' ok' v cs
  | .mk k is t ns ks, cs, h => by
    unfold JAt at h ⊢
    obtain ⟨sn, sk, rfl, h1, css, h2, h3⟩ := h
    exact ⟨sn, sk, rfl, h1.kept hs hk, css, JsAt.kept hs hk ks css h2, h3.kept hs hk⟩
theorem JsAt.kept {w w' : World} {ok ok' : Nat → Prop} (hs : w.heap.size ≤ w'.heap.size) (hk : ∀ g, ok g → g < w.heap.size → w'.heap[g]? = w.heap[g]? ∧ ok' g) : ∀ (ks : List Cx.J) (css : List (List Value)), JsAt w ok ks css → JsAt w' ok' ks css
  | [], css, h => by unfold JsAt at h ⊢; exact h
  | k :: ks, css, h => by
    unfold JsAt at h ⊢
    obtain ⟨c, cs, rfl, h1, h2⟩ := h
    exact ⟨c, cs, rfl, JAt.kept hs hk k c h1, JsAt.kept hs hk ks cs h2⟩
end
theorem JAt.length {w : World} {ok : Nat → Prop} {v : Cx.J} {cs : List Value} (h : JAt w ok v cs) : cs.length = 5 := by
  obtain ⟨k, is, t, ns, ks⟩ := v
  unfold JAt at h
  obtain ⟨_, _, rfl, _⟩ := h; rfl
theorem JsAt.length {w : World} {ok : Nat → Prop} : ∀ {ks : List Cx.J} {css : List (List Value)}, JsAt w ok ks css → css.length = ks.length ∧ css.flatten.length = 5 * ks.length
  | [], css, h => by unfold JsAt at h; subst h; exact ⟨rfl, rfl⟩
  | k :: ks, css, h => by
    unfold JsAt at h
    obtain ⟨c, cs, rfl, h1, h2⟩ := h
    have := JsAt.length h2; have := h1.length
    simp only [List.length_cons, List.flatten_cons, List.length_append]; omega
theorem JsAt.snoc {w : World} {ok : Nat → Prop} {k : Cx.J} {c : List Value} (hc : JAt w ok k c) : ∀ {ks : List Cx.J} {css : List (List Value)}, JsAt w ok ks css → JsAt w ok (ks ++ [k]) (css ++ [c])
  | [], css, h => by
    unfold JsAt at h; subst h
    show JsAt w ok [k] [c]
    unfold JsAt; exact ⟨c, [], rfl, hc, by unfold JsAt; rfl⟩
  | k' :: ks, css, h => by
    unfold JsAt at h
    obtain ⟨c', cs, rfl, h1, h2⟩ := h
    show JsAt w ok (k' :: (ks ++ [k])) (c' :: (cs ++ [c]))
    unfold JsAt; exact ⟨c', cs ++ [c], rfl, h1, JsAt.snoc hc h2⟩
/-- Each cell of a value is one cell. -/
theorem JAt.one {w : World} {ok : Nat → Prop} {v : Cx.J} {cs : List Value} (h : JAt w ok v cs) : ∀ u ∈ cs, u.oneCell' = true := by
  obtain ⟨k, is, t, ns, ks⟩ := v
  unfold JAt at h
  obtain ⟨sn, sk, rfl, h1, css, _, h3⟩ := h
  have hr : ∀ {v : Value} {n : Nat} {xs : List Value}, Row w ok v n xs → v.oneCell' = true := by
    intro v n xs h
    rcases h with ⟨_, _, a, cap, rfl⟩ | ⟨_, g, o, cap, rfl, _⟩ <;> rfl
  intro u hu
  simp only [List.mem_cons, List.not_mem_nil, or_false] at hu
  rcases hu with rfl | rfl | rfl | rfl | rfl
  · rfl
  · rfl
  · rfl
  · exact hr h1
  · exact hr h3
/-- A value without names and kids. -/
theorem JAt.plain {w : World} {ok : Nat → Prop} {k : Int} {is : Bool} {t : List UInt8} : JAt w ok (.mk k is t [] []) [.int .i64 k, .bool is, strV t, .slice none 0 0, .slice none 0 0] := by
  unfold JAt
  exact ⟨_, _, rfl, .inl ⟨rfl, rfl, _, _, rfl⟩, [], by unfold JsAt; rfl, .inl ⟨rfl, rfl, _, _, rfl⟩⟩
end Go.Proofs.YtejlddimokmgjaaGreatDoor
namespace Go.Proofs.YtejlddimokmgjaaGreatDoor
open Go.RowKit

theorem contains_calls (sn : Value) (ns : List (List UInt8)) (t : List UInt8) (ok : Nat → Prop) (w : World) (h : Row w ok sn ns.length (ns.map strV)) (hn : ns.length ≤ 200000) :
    Calls Tryz.prog 69 #[sn, .string ⟨t.toArray⟩] w fun e w' => e = .returned (.bool (decide (t ∈ ns))) ∧ w = w' := by
  rcases h with ⟨h0, _, a, cap, rfl⟩ | ⟨h0, g, o, cap, rfl, _, _, _, hc⟩
  · have : ns = [] := List.length_eq_zero_iff.1 h0
    subst this
    refine (Tryz.slices_Contains_string_empty a cap ⟨t.toArray⟩ w).mono ?_
    rintro e w' ⟨rfl, rfl⟩
    exact ⟨by simp, rfl⟩
  · refine (Tryz.slices_Contains_string g o ns.length cap (ns.map fun t => ⟨t.toArray⟩) ⟨t.toArray⟩ w (by simp) (by omega) ?_).mono ?_
    · intro j hj
      simp only [List.length_map] at hj
      refine hc j _ ?_
      simp [List.getElem?_eq_getElem hj, strV, List.getD]
    · rintro e w' ⟨rfl, rfl⟩
      refine ⟨?_, rfl⟩
      congr 2
      rw [List.take_of_length_le (by simp), Bool.eq_iff_iff, Lib.containsS_iff]
      simp only [List.mem_map, decide_eq_true_eq]
      constructor
      · rintro ⟨t', h1, h2⟩
        injection h2 with h2
        have : t' = t := by simpa using congrArg Array.toList h2
        rw [← this]; exact h1
      · intro h; exact ⟨t, h, rfl⟩

theorem take_word (s : ByteArray) (i : Nat) (m : Int) (b : Nat) (c : UInt8) (hc0 : c ≠ 0) (w : World) (h : Rd b s i m w) (hle : i ≤ s.size) (hs : s.size ≤ maxLen) :
    Calls Tryz.prog 132 #[.pointer (some ⟨b, 0, none⟩), .int .u8 c.toNat] w (Gives (Cx.word s.data.toList [c] i) (At b s m) b w) := by
  by_cases hc : Cx.peek s.data.toList i = c
  · have hlt : i < s.size := Cx.peek_lt (s := s.data.toList) (by rw [hc]; exact hc0)
    have hr : Cx.word s.data.toList [c] i = .ok (i + 1) := by unfold Cx.word; rw [if_pos hc]; rfl
    have := take_ok s i m b w h hlt hs
    rw [← peek_size hlt, hc] at this
    refine this.mono ?_
    rintro e w' ⟨rfl, h1, h2⟩
    exact Gives.ok hr h2 ⟨rfl, h1⟩
  · have hr : Cx.word s.data.toList [c] i = .error (7, i) := by unfold Cx.word; rw [if_neg hc]
    refine (take_bad s i m b c w h hc hle hs).mono ?_
    rintro e w' ⟨rfl, h2⟩
    exact Gives.err hr h2

set_option maxHeartbeats 1000000 in
theorem name_calls (s : ByteArray) (i : Nat) (m : Int) (b : Nat) (sn : Value) (ns : List (List UInt8)) (w : World) (h : Rd b s i m w) (hg : Glb w) (hb8 : 8 ≤ b) (hle : i ≤ s.size) (hs : s.size ≤ 100000)
    (hsn : Row w (fun g => g ≠ b) sn ns.length (ns.map strV)) (hns : ns.length ≤ 200000) :
    Calls Tryz.prog 135 #[.pointer (some ⟨b, 0, none⟩), sn] w (Gives (Cx.name s.data.toList ns i) (TextAt b s m) b w) := by
  have hs' : s.size ≤ maxLen := by unfold maxLen; omega
  obtain ⟨RES, hRES⟩ : ∃ RES, RES = Cx.name s.data.toList ns i := ⟨_, rfl⟩
  rw [← hRES]
  unfold Cx.name at hRES
  have HR := Lib.hid hRES; have H := Lib.hid h; have HG := Lib.hid hg; have HS := Lib.hid hsn
  clear hRES h hg hsn
  go_enter Tryz.func135, Tryz.ntmps135
  go_wp2_with fail
  refine (blanks_calls s i m b _ H.out hle hs').mono ?_
  rintro e w1 ⟨rfl, k1, k2⟩
  have hle1 : Cx.skipB s.data.toList i ≤ s.size := Cx.skipB_len (s := s.data.toList) hle
  generalize hp : Cx.skipB s.data.toList i = p at hle1 k1
  have HR2 := HR.out
  rw [hp] at HR2
  have c1 := k1.c1
  have K1 := Lib.hid k1; have K2 := Lib.hid k2; have G1 := Lib.hid (HG.out.mv k2 hb8)
  have S1 : Hid (Row w1 (fun g => g ≠ b) sn ns.length (ns.map strV)) := Lib.hid (HS.out.kept k2.size fun g hgb hgl => ⟨k2.block g hgl (by simpa using hgb), hgb⟩)
  have HRA := Lib.hid HR2; have HP := Lib.hid hp
  clear k1 k2 HR2 HR H HG HS hp
  go_wp2_with fail
  refine (text_calls s p m b _ K1.out G1.out hb8 hle1 hs).mono ?_
  intro e w2 hgv
  cases ht : Cx.text s.data.toList p with
  | error x =>
    obtain ⟨rfl, k3⟩ := hgv.of_err ht
    have hr := HRA.out
    rw [ht] at hr
    exact ⟨rfl, Gives.err hr (K2.out.trans k3)⟩
  | ok a =>
    obtain ⟨t, j⟩ := a
    obtain ⟨⟨rfl, k3⟩, k4⟩ := hgv.of_ok ht
    have htk := Cx.text_ok ht
    have hlj : j ≤ s.size := htk.2.1
    have hr := HRA.out
    rw [ht] at hr
    simp only at hr
    have HRB := Lib.hid hr; have K3 := Lib.hid k3; have K4 := Lib.hid (K2.out.trans k4)
    have S2 : Hid (Row w2 (fun g => g ≠ b) sn ns.length (ns.map strV)) := Lib.hid (S1.out.kept k4.size fun g hgb hgl => ⟨k4.block g hgl (by simpa using hgb), hgb⟩)
    clear hr htk ht hgv k3 k4 HRA S1 c1
    go_wp2_with fail
    refine (contains_calls sn ns t _ _ S2.out hns).mono ?_
    rintro e w3 ⟨rfl, rfl⟩
    by_cases hm : t ∈ ns
    · have hd : decide (t ∈ ns) = true := by simpa using hm
      have hr := HRB.out
      rw [if_pos hm] at hr
      have HRC := Lib.hid hr
      rw [hd]
      clear hr hm hd HRB
      go_wp2_with (go_at_call 49; refine (give_calls _ _ _ _).mono ?_; rintro e w' ⟨rfl, rfl⟩)
      exact ⟨rfl, Gives.err HRC.out K4.out⟩
    · have hd : decide (t ∈ ns) = false := by simpa using hm
      have hr := HRB.out
      rw [if_neg hm] at hr
      have HRC := Lib.hid hr
      rw [hd]
      clear hr hm hd HRB
      go_wp2_with fail
      refine (blanks_calls s j m b _ K3.out hlj hs').mono ?_
      rintro e w4 ⟨rfl, k5, k6⟩
      have hle5 : Cx.skipB s.data.toList j ≤ s.size := Cx.skipB_len (s := s.data.toList) hlj
      have K5 := Lib.hid k5; have K6 := Lib.hid (K4.out.trans k6)
      clear k5 k6
      go_wp2_with fail
      refine (take_word s (Cx.skipB s.data.toList j) m b 58 (by decide) _ K5.out hle5 hs').mono ?_
      intro e w5 hgv
      cases hw : Cx.word s.data.toList [58] (Cx.skipB s.data.toList j) with
      | error x =>
        obtain ⟨rfl, k7⟩ := hgv.of_err hw
        have hr := HRC.out
        rw [hw] at hr
        exact ⟨rfl, Gives.err hr (K6.out.trans k7)⟩
      | ok k =>
        obtain ⟨⟨rfl, k7⟩, k8⟩ := hgv.of_ok hw
        have hr := HRC.out
        rw [hw] at hr
        simp only at hr
        have HRD := Lib.hid hr; have K7 := Lib.hid k7; have K8 := Lib.hid (K6.out.trans k8)
        clear hr hw hgv k7 k8
        go_wp2
        go_ret
        exact Gives.ok HRD.out K8.out ⟨rfl, K7.out⟩
end Go.Proofs.YtejlddimokmgjaaGreatDoor
namespace Go.Proofs.YtejlddimokmgjaaGreatDoor
open Go.RowKit

/-- The zero value's cells. -/
def zeroJ : Array Value := #[.int .i64 0, .bool false, .string ⟨#[]⟩, .slice none 0 0, .slice none 0 0]

/-- While parts are gathered: the call began at heap size B: block B is the result's box, B + 1 the gathered value's. -/
structure PI (b B : Nat) (kind : Int) (s : ByteArray) (w0 : World) (j m : Nat) (ns : List (List UInt8)) (ks : List Cx.J) (sn sk : Value) (css : List (List Value)) (w : World) : Prop where
  base : B = w0.heap.size
  rd : Rd b s j m w
  glb : Glb w
  mv : Mv b w0 w
  res : w.heap[B]? = some (.cells zeroJ 48 (0, 0))
  box : w.heap[B + 1]? = some (.cells #[.int .i64 kind, .bool false, .string ⟨#[]⟩, sn, sk] 48 (0, 0))
  own1 : w.ownsRow (B + 2) 9 1 sn ns.length (ns.map strV)
  own2 : w.ownsRow (B + 2) 48 5 sk ks.length css.flatten
  kids : JsAt w (fun g => B + 2 ≤ g ∧ some g ≠ sn.ownBlock ∧ some g ≠ sk.ownBlock) ks css

theorem heap_lt {w : World} {k : Nat} {o : Obj} (h : w.heap[k]? = some o) : k < w.heap.size := by
  rcases Nat.lt_or_ge k w.heap.size with g | g
  · exact g
  · rw [Array.getElem?_eq_none g] at h; cases h
theorem PI.size {b B : Nat} {kind : Int} {s : ByteArray} {w0 : World} {j m : Nat} {ns : List (List UInt8)} {ks : List Cx.J} {sn sk : Value} {css : List (List Value)} {w : World}
    (h : PI b B kind s w0 j m ns ks sn sk css w) : B + 2 ≤ w.heap.size := heap_lt h.box

/-- The reader moves on. -/
theorem PI.move {b B : Nat} {kind : Int} {s : ByteArray} {w0 : World} {j m j' m' : Nat} {ns : List (List UInt8)} {ks : List Cx.J} {sn sk : Value} {css : List (List Value)} {w w' : World}
    (h : PI b B kind s w0 j m ns ks sn sk css w) (hb : b < B) (hb8 : 8 ≤ b) (k : Mv b w w') (hrd : Rd b s j' m' w') : PI b B kind s w0 j' m' ns ks sn sk css w' where
  base := h.base
  rd := hrd
  glb := h.glb.mv k hb8
  mv := h.mv.trans k
  res := k.heap h.res (by omega)
  box := k.heap h.box (by omega)
  own1 := h.own1.kept k (by
    right; intro e
    have := h.own1.lt b e; omega)
  own2 := h.own2.kept k (by
    right; intro e
    have := h.own2.lt b e; omega)
  kids := JsAt.kept k.size (fun g hg hl => ⟨k.block g hl (by simp; omega), hg⟩) _ _ h.kids

theorem own_ne {w : World} {B : Nat} {e e' : TypeId} {n n' size size' : Nat} {v v' : Value} {xs xs' : List Value} (h : w.ownsRow B e size v n xs) (h' : w.ownsRow B e' size' v' n' xs') (he : e ≠ e') {g : Nat} (hg : v.ownBlock = some g) : v'.ownBlock ≠ some g := by
  intro hg'
  rcases h.2 with ⟨hv, _⟩ | ⟨g1, _, _, hv, _, hh, _⟩
  · rw [hv] at hg; cases hg
  · rcases h'.2 with ⟨hv', _⟩ | ⟨g2, _, _, hv', _, hh', _⟩
    · rw [hv'] at hg'; cases hg'
    · rw [hv] at hg; rw [hv'] at hg'
      simp only [Value.ownBlock, Option.some.injEq] at hg hg'
      subst hg; subst hg'
      rw [hh] at hh'; injection hh' with hh'; injection hh' with _ hh'; exact he hh'

/-- A value has been appended. -/
theorem PI.addKid {b B : Nat} {kind : Int} {s : ByteArray} {w0 : World} {j m j' m' : Nat} {ns : List (List UInt8)} {ks : List Cx.J} {sn sk : Value} {css : List (List Value)} {w wA w3 : World} {k : Cx.J} {c : List Value} {g cap : Nat}
    (h : PI b B kind s w0 j m ns ks sn sk css w) (hb : b < B) (hb8 : 8 ≤ b) (hmv : Mv b w wA) (hrd : Rd b s j' m' wA) (hk : JAt wA (fun g => w.heap.size ≤ g) k c)
    (hown : w3.ownsRow (B + 2) 48 5 (.slice (some ⟨g, 0, none⟩) (ks.length + 1) cap) (ks.length + 1) (css.flatten ++ c)) (hgrow : wA.grownBy w3 sk.ownBlock) (hg : sk.ownBlock = some g ∨ g = wA.heap.size) :
    PI b B kind s w0 j' m' ns (ks ++ [k]) sn (.slice (some ⟨g, 0, none⟩) (ks.length + 1) cap) (css ++ [c]) (w3.setCell ⟨B + 1, 4, none⟩ (.slice (some ⟨g, 0, none⟩) (ks.length + 1) cap)) := by
  have hA := h.move hb hb8 hmv hrd
  have hsz := h.size; have hszA := hmv.size
  have hlt2 : ∀ k, sk.ownBlock = some k → B + 2 ≤ k ∧ k < w.heap.size := h.own2.lt
  have hlt1 : ∀ k, sn.ownBlock = some k → B + 2 ≤ k ∧ k < w.heap.size := h.own1.lt
  have hgB : B + 2 ≤ g := by
    rcases hg with e | e
    · exact (hlt2 g e).1
    · omega
  have hskip : ∀ k, k < wA.heap.size → some k ≠ sk.ownBlock → k ≠ B + 1 → (w3.setCell ⟨B + 1, 4, none⟩ (.slice (some ⟨g, 0, none⟩) (ks.length + 1) cap)).heap[k]? = wA.heap[k]? := fun k h1 h2 h3 => by
    rw [Below.heap_setCell _ _ _ _ h3]; exact hgrow.block k h1 h2
  have hbox : w3.heap[B + 1]? = some (.cells #[.int .i64 kind, .bool false, .string ⟨#[]⟩, sn, sk] 48 (0, 0)) := by
    rw [hgrow.block (B + 1) (by omega) (fun e => by have := hlt2 _ e.symm; omega)]; exact hA.box
  have hsize : (w3.setCell ⟨B + 1, 4, none⟩ (.slice (some ⟨g, 0, none⟩) (ks.length + 1) cap)).heap.size = w3.heap.size := by simp [World.setCell]
  have hs3 := hgrow.size
  refine ⟨h.base, ?_, ?_, ?_, ?_, ?_, ?_, ?_, ?_⟩
  · unfold Rd; rw [hskip b (by have := hA.rd.lt; omega) (fun e => by have := hlt2 _ e.symm; omega) (by omega)]; exact hA.rd
  · refine hA.glb.same fun a v ha hc => ?_
    rw [World.cell?_of_block (w := wA) (hskip a.block (World.block_lt_of_cell? wA a hc) (fun e => by have := hlt2 _ e.symm; omega) (by omega))]; exact hc
  · refine ⟨hgrow.os.trans hA.mv.os, hgrow.tape.trans hA.mv.tape, hgrow.output.trans hA.mv.output, by rw [hsize]; have := hA.mv.size; omega, fun i hi hn => ?_⟩
    have hm0 := hA.mv.size
    have hB0 := h.base
    rw [← hA.mv.block i hi hn]
    exact hskip i (by omega) (fun e => by have := hlt2 _ e.symm; omega) (by omega)
  · rw [hskip B (by omega) (fun e => by have := hlt2 _ e.symm; omega) (by omega)]; exact hA.res
  · simp [World.setCell, Array.getElem?_modify, hbox]
  · refine (hA.own1.kept hgrow ?_).kept (row := some (B + 1)) ⟨rfl, rfl, rfl, by simp [World.setCell], fun k _ hk => Below.heap_setCell _ _ _ _ (fun e => hk (by simp [e]))⟩ ?_
    · rcases hs : sn.ownBlock with _ | x
      · exact .inl rfl
      · right; intro e; exact own_ne h.own1 h.own2 (by decide) hs e.symm
    · right; intro e; have := hlt1 _ e; omega
  · have := hown.kept (w' := w3.setCell ⟨B + 1, 4, none⟩ (.slice (some ⟨g, 0, none⟩) (ks.length + 1) cap)) (row := some (B + 1)) ⟨rfl, rfl, rfl, by simp [World.setCell], fun k _ hk => Below.heap_setCell _ _ _ _ (fun e => hk (by simp [e]))⟩ (by right; simp [Value.ownBlock]; omega)
    simpa using this
  · refine JsAt.snoc ?_ ?_
    · refine JAt.kept (by rw [hsize]; exact hs3) (fun x hx hl => ⟨hskip x hl (fun e => by have := hlt2 _ e.symm; omega) (by omega), by omega, fun e => by have := hlt1 _ e.symm; omega, ?_⟩) _ _ hk
      simp only [Value.ownBlock, ne_eq, Option.some.injEq]
      rintro rfl
      rcases hg with e | e
      · have := hlt2 _ e; omega
      · omega
    · refine JsAt.kept (by rw [hsize]; omega) (fun x hx hl => ⟨?_, hx.1, hx.2.1, ?_⟩) _ _ h.kids
      · rw [hskip x (by omega) hx.2.2 (by omega), hmv.block x hl (by simp; omega)]
      · simp only [Value.ownBlock, ne_eq, Option.some.injEq]
        rintro rfl
        rcases hg with e | e
        · exact hx.2.2 e.symm
        · omega

/-- A name has been appended. -/
theorem PI.addName {b B : Nat} {kind : Int} {s : ByteArray} {w0 : World} {j m j' m' : Nat} {ns : List (List UInt8)} {ks : List Cx.J} {sn sk : Value} {css : List (List Value)} {w wA w3 : World} {t : List UInt8} {g cap : Nat}
    (h : PI b B kind s w0 j m ns ks sn sk css w) (hb : b < B) (hb8 : 8 ≤ b) (hmv : Mv b w wA) (hrd : Rd b s j' m' wA)
    (hown : w3.ownsRow (B + 2) 9 1 (.slice (some ⟨g, 0, none⟩) (ns.length + 1) cap) (ns.length + 1) (ns.map strV ++ [strV t])) (hgrow : wA.grownBy w3 sn.ownBlock) (hg : sn.ownBlock = some g ∨ g = wA.heap.size) :
    PI b B kind s w0 j' m' (ns ++ [t]) ks (.slice (some ⟨g, 0, none⟩) (ns.length + 1) cap) sk css (w3.setCell ⟨B + 1, 3, none⟩ (.slice (some ⟨g, 0, none⟩) (ns.length + 1) cap)) := by
  have hA := h.move hb hb8 hmv hrd
  have hsz := h.size; have hszA := hmv.size
  have hlt2 : ∀ k, sk.ownBlock = some k → B + 2 ≤ k ∧ k < w.heap.size := h.own2.lt
  have hlt1 : ∀ k, sn.ownBlock = some k → B + 2 ≤ k ∧ k < w.heap.size := h.own1.lt
  have hgB : B + 2 ≤ g := by
    rcases hg with e | e
    · exact (hlt1 g e).1
    · omega
  have hskip : ∀ k, k < wA.heap.size → some k ≠ sn.ownBlock → k ≠ B + 1 → (w3.setCell ⟨B + 1, 3, none⟩ (.slice (some ⟨g, 0, none⟩) (ns.length + 1) cap)).heap[k]? = wA.heap[k]? := fun k h1 h2 h3 => by
    rw [Below.heap_setCell _ _ _ _ h3]; exact hgrow.block k h1 h2
  have hbox : w3.heap[B + 1]? = some (.cells #[.int .i64 kind, .bool false, .string ⟨#[]⟩, sn, sk] 48 (0, 0)) := by
    rw [hgrow.block (B + 1) (by omega) (fun e => by have := hlt1 _ e.symm; omega)]; exact hA.box
  have hsize : (w3.setCell ⟨B + 1, 3, none⟩ (.slice (some ⟨g, 0, none⟩) (ns.length + 1) cap)).heap.size = w3.heap.size := by simp [World.setCell]
  have hs3 := hgrow.size
  refine ⟨h.base, ?_, ?_, ?_, ?_, ?_, ?_, ?_, ?_⟩
  · unfold Rd; rw [hskip b (by have := hA.rd.lt; omega) (fun e => by have := hlt1 _ e.symm; omega) (by omega)]; exact hA.rd
  · refine hA.glb.same fun a v ha hc => ?_
    rw [World.cell?_of_block (w := wA) (hskip a.block (World.block_lt_of_cell? wA a hc) (fun e => by have := hlt1 _ e.symm; omega) (by omega))]; exact hc
  · refine ⟨hgrow.os.trans hA.mv.os, hgrow.tape.trans hA.mv.tape, hgrow.output.trans hA.mv.output, by rw [hsize]; have := hA.mv.size; omega, fun i hi hn => ?_⟩
    have hm0 := hA.mv.size
    have hB0 := h.base
    rw [← hA.mv.block i hi hn]
    exact hskip i (by omega) (fun e => by have := hlt1 _ e.symm; omega) (by omega)
  · rw [hskip B (by omega) (fun e => by have := hlt1 _ e.symm; omega) (by omega)]; exact hA.res
  · simp [World.setCell, Array.getElem?_modify, hbox]
  · have := hown.kept (w' := w3.setCell ⟨B + 1, 3, none⟩ (.slice (some ⟨g, 0, none⟩) (ns.length + 1) cap)) (row := some (B + 1)) ⟨rfl, rfl, rfl, by simp [World.setCell], fun k _ hk => Below.heap_setCell _ _ _ _ (fun e => hk (by simp [e]))⟩ (by right; simp [Value.ownBlock]; omega)
    simpa using this
  · refine (hA.own2.kept hgrow ?_).kept (row := some (B + 1)) ⟨rfl, rfl, rfl, by simp [World.setCell], fun k _ hk => Below.heap_setCell _ _ _ _ (fun e => hk (by simp [e]))⟩ ?_
    · rcases hs : sk.ownBlock with _ | x
      · exact .inl rfl
      · right; intro e; exact own_ne h.own2 h.own1 (by decide) hs e.symm
    · right; intro e; have := hlt2 _ e; omega
  · refine JsAt.kept (by rw [hsize]; omega) (fun x hx hl => ⟨?_, hx.1, ?_, hx.2.2⟩) _ _ h.kids
    · rw [hskip x (by omega) hx.2.1 (by omega), hmv.block x hl (by simp; omega)]
    · simp only [Value.ownBlock, ne_eq, Option.some.injEq]
      rintro rfl
      rcases hg with e | e
      · exact hx.2.1 e.symm
      · omega
end Go.Proofs.YtejlddimokmgjaaGreatDoor
