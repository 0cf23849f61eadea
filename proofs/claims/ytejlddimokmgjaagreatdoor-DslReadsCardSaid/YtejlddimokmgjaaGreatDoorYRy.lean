/- WALKS: Int, as the document's answer tells it. -/
import Derived.Test.YtejlddimokmgjaaGreatDoorYRb
import Derived.Test.YtejlddimokmgjaaGreatDoorKh
namespace Go.Proofs.YtejlddimokmgjaaGreatDoor
open Go.RowKit

set_option maxRecDepth 100000 in
set_option maxHeartbeats 2000000 in
theorem int2_calls (v : Cx.J) (cs : List Value) (w : World) (ok : Nat → Prop) (hj : JAt w ok v cs) (hf : fit maxLen v) :
    Calls Tryz.prog 82 #[.agg cs.toArray] w (IntPost v w) := by
  cases v with
  | mk k is t ns ks =>
  obtain ⟨a, nc, a', kc, rfl⟩ := hj.shape
  have htl : t.length ≤ maxLen := hf.1
  unfold maxLen at htl
  have hts : (⟨t.toArray⟩ : ByteArray).size = t.length := by simp [ByteArray.size]
  obtain ⟨R, hR⟩ : ∃ R, R = Cx.toInt (.mk k is t ns ks) := ⟨_, rfl⟩
  unfold IntPost
  rw [← hR]
  have HR := Lib.hid hR
  have HB := Lib.hid ((Below.refl w.heap.size w).alloc (Nat.le_refl _) (.cells #[.int .i64 k, .bool is, .string ⟨t.toArray⟩, .slice a ns.length nc, .slice a' ks.length kc] 48))
  clear hR hj hf
  by_cases hk : k = 3
  rotate_left
  · have hkd : (k != 3) = true := by simpa using hk
    have HN : Hid (R = none) := Lib.hid (by rw [HR.out]; simp [Cx.toInt, hk])
    clear hk
    go_enter Tryz.func82, Tryz.ntmps82
    go_wp2_with fail
    go_ret2
    rw [HN.out]
    exact ⟨rfl, HB.out⟩
  subst hk
  have hRT : R = Cx.toIntT t := by rw [HR.out]; simp [Cx.toInt]
  have HRT := Lib.hid hRT
  clear hRT HR
  obtain ⟨U, hU⟩ : ∃ U : List UInt8, U = Cx.unsign t := ⟨_, rfl⟩
  obtain ⟨M, hM⟩ : ∃ M : Bool, M = decide (t.head? = some 45) := ⟨_, rfl⟩
  have hUl : U.length ≤ t.length ∧ t.length ≤ U.length + 1 := by rw [hU]; exact unsign_le t
  have HU := Lib.hid hU; have HM := Lib.hid hM
  go_enter Tryz.func82, Tryz.ntmps82
  go_upto_region 4 with fail
  go_cut [5] (fun z wr => z = .bool M ∧ wr = w.alloc (.cells #[.int .i64 3, .bool is, .string ⟨t.toArray⟩, .slice a ns.length nc, .slice a' ks.length kc] 48))
  case first =>
    by_cases ht0 : t = []
    · subst ht0
      have hm : M = false := by rw [hM]; rfl
      subst hm
      clear hM hU
      go_wp2_with fail
      go_meet
      case rel => exact ⟨rfl, rfl⟩
    · have htl0 : 0 < t.length := List.length_pos_iff.2 ht0
      obtain ⟨c, hcp⟩ : ∃ c, c = Cx.peek t 0 := ⟨_, rfl⟩
      have hm0 : M = decide (c = 45) := by
        rw [hM, hcp]
        cases t with
        | nil => exact absurd rfl ht0
        | cons d l => simp [Cx.peek]
      have hc0 : (((⟨t.toArray⟩ : ByteArray)[0]'(by rw [hts]; exact htl0)).toNat : Int) = (c.toNat : Int) := by
        have := peek_size (s := ⟨t.toArray⟩) (i := 0) (by rw [hts]; exact htl0)
        rw [← this, hcp]
      have hte : (t == []) = false := by simpa using ht0
      have hte2 : (t != []) = true := by rw [bne, hte]; rfl
      have hte3 : decide (t = []) = false := by simpa using ht0
      have hte4 : t.isEmpty = false := by simpa using ht0
      have hte5 : (!decide (t = [])) = true := by simpa using ht0
      have hte6 : ((⟨t.toArray⟩ : ByteArray).toList == (⟨#[]⟩ : ByteArray).toList) = false := by rw [ByteArray.toList_eq, ByteArray.toList_eq]; exact hte
      have hte7 : (!((⟨t.toArray⟩ : ByteArray).toList == (⟨#[]⟩ : ByteArray).toList)) = true := by rw [hte6]; rfl
      clear hM hU hcp
      by_cases h45 : c = 45
      · have n45 : ((c.toNat : Int) == 45) = true := by rw [h45]; rfl
        have hm : M = true := by rw [hm0, h45]; rfl
        clear hm0
        subst hm
        clear h45
        go_wp2_with fail
        go_meet
        case rel => exact ⟨rfl, rfl⟩
      · have n45 : ((c.toNat : Int) == 45) = false := u8ne (k := 45) h45
        have hm : M = false := by rw [hm0]; exact decide_eq_false h45
        clear hm0
        subst hm
        clear h45
        go_wp2_with fail
        go_meet
        case rel => exact ⟨rfl, rfl⟩
  case rest =>
  obtain ⟨rfl, rfl⟩ := hcut
  go_upto_if 20 with fail
  go_cut [4, 5] (fun z z2 wr => z = .string ⟨U.toArray⟩ ∧ z2 = .bool M ∧ wr = w.alloc (.cells #[.int .i64 3, .bool is, .string ⟨t.toArray⟩, .slice a ns.length nc, .slice a' ks.length kc] 48))
  case first =>
    cases M with
    | true =>
      obtain ⟨l, hl⟩ : ∃ l, t = 45 :: l := by
        cases t with
        | nil => simp at hM
        | cons c l => simp at hM; exact ⟨l, by rw [hM]⟩
      have hUe : U = l := by rw [hU, hl]; rfl
      have hx : (⟨t.toArray⟩ : ByteArray).extract 1 t.length = ⟨U.toArray⟩ := by rw [extract_list, hUe]; simp [hl]
      have ht1 : 1 ≤ t.length := by rw [hl]; simp
      have HX := Lib.hid hx
      clear hU hM hl hUe hx
      go_wp2_with fail
      go_meet
      case rel => exact ⟨congrArg Value.string HX.out, rfl, rfl⟩
    | false =>
      have hUe : U = t := by
        rw [hU]; unfold Cx.unsign
        split
        · simp at hM
        · rfl
      subst hUe
      clear hU hM
      go_wp2_with fail
      go_meet
      case rel => exact ⟨rfl, rfl, rfl⟩
  case rest =>
  obtain ⟨rfl, rfl, rfl⟩ := hcut
  clear hU hM
  have hus : (⟨U.toArray⟩ : ByteArray).size = U.length := by simp [ByteArray.size]
  go_wp2_with fail
  go_loop [6, 7] (fun zn zi => ∃ (n i : Nat), zn = .int .i64 n ∧ zi = .int .i64 i ∧ i ≤ U.length ∧ i ≤ 15 ∧ n < 10 ^ i ∧ Hid (n = Cx.digVal (U.take i)) ∧ Hid (∀ c ∈ U.take i, Cx.isDig c = true)) (fun _ zi => U.length - (intOf zi).toNat)
  case atStart => exact ⟨0, 0, rfl, rfl, by omega, by omega, by decide, Lib.hid rfl, Lib.hid (by simp)⟩
  case round =>
    obtain ⟨n, i, rfl, rfl, hi, hi15, hn, HN, HD⟩ := hrel
    rcases Nat.lt_or_ge i U.length with hlt | hge
    · obtain ⟨c, hc⟩ : ∃ c, U[i]? = some c := ⟨U[i], by simp [hlt]⟩
      have hci : (((⟨U.toArray⟩ : ByteArray)[i]'(by rw [hus]; exact hlt)).toNat : Int) = (c.toNat : Int) := by
        have := peek_size (s := ⟨U.toArray⟩) (i := i) (by rw [hus]; exact hlt)
        rw [← this]
        show ((U.getD i 0).toNat : Int) = _
        rw [List.getD, hc]; rfl
      have hltI : (i : Int) < (U.length : Int) := by omega
      have hti : U.take (i + 1) = U.take i ++ [c] := by rw [List.take_add_one, hc]; rfl
      have HC := Lib.hid hc; have HTI := Lib.hid hti
      have hc256 := c.toNat_lt
      clear hc hti
      cases hd : Cx.isDig c with
      | false =>
        have hno : R = none := by
          rw [HRT.out]; unfold Cx.toIntT; rw [← HU.out, if_neg]
          rintro ⟨_, _, h⟩
          rw [List.all_eq_true] at h
          rw [h c (List.mem_of_getElem? HC.out)] at hd
          cases hd
        have HNO := Lib.hid hno; have HDD := Lib.hid hd
        clear hno hd
        go_wp2_with fail
        refine (digit2_calls c _).mono ?_
        rintro e w' ⟨rfl, hw'⟩
        subst hw'
        rw [HDD.out]
        go_wp2_with fail
        go_ret2
        rw [HNO.out]
        exact ⟨rfl, HB.out⟩
      | true =>
        have HDD := Lib.hid hd
        have hcd : 48 ≤ c.toNat ∧ c.toNat ≤ 57 := by
          simp only [Cx.isDig, Bool.and_eq_true, decide_eq_true_eq, UInt8.le_iff_toNat_le] at hd
          exact hd
        by_cases h15 : i < 15
        rotate_left
        · have hi15' : (15 : Int) ≤ (i : Int) := by omega
          have hno : R = none := by
            rw [HRT.out]; unfold Cx.toIntT; rw [← HU.out, if_neg]
            rintro ⟨_, h, _⟩
            omega
          have HNO := Lib.hid hno
          clear hno hd
          go_wp2_with fail
          refine (digit2_calls c _).mono ?_
          rintro e w' ⟨rfl, hw'⟩
          subst hw'
          rw [HDD.out]
          go_wp2_with fail
          go_ret2
          rw [HNO.out]
          exact ⟨rfl, HB.out⟩
        have hi15' : ¬ (15 : Int) ≤ (i : Int) := by omega
        have hnb : n < 1000000000000000 := Nat.lt_of_lt_of_le hn (Nat.pow_le_pow_right (n := 10) (by omega) (show i ≤ 15 by omega))
        have hn2 : n * 10 + (c.toNat - 48) < 10 ^ (i + 1) := by rw [Nat.pow_succ]; omega
        have HNN := Lib.hid hn2
        clear hd hn hn2
        go_wp2_with fail
        refine (digit2_calls c _).mono ?_
        rintro e w' ⟨rfl, hw'⟩
        subst hw'
        rw [HDD.out]
        go_wp2_with fail
        go_round
        case rel =>
          refine ⟨n * 10 + (c.toNat - 48), i + 1, ?_, by go_num, by omega, by omega, HNN.out, Lib.hid ?_, Lib.hid ?_⟩
          · congr 1; omega
          · rw [HTI.out, Cx.digVal_snoc, ← HN.out, Nat.mul_comm]
          · rw [HTI.out]
            intro x hx
            rcases List.mem_append.1 hx with h | h
            · exact HD.out x h
            · simp at h; rw [h]; exact HDD.out
        case measure => simp [intOf]; omega
    · have hik : i = U.length := by omega
      subst hik
      have hltI : ¬ (U.length : Int) < (U.length : Int) := by omega
      have hN := HN.out; have hD := HD.out
      rw [List.take_length] at hN hD
      by_cases h0 : U = []
      · have hno : R = none := by
          rw [HRT.out]; unfold Cx.toIntT; rw [← HU.out, if_neg]
          rintro ⟨h, _, _⟩; exact h h0
        have HNO := Lib.hid hno
        have h0d : (U == []) = true := by rw [h0]; rfl
        clear hno hN hD h0
        go_wp2_with fail
        go_ret2
        rw [HNO.out]
        exact ⟨rfl, HB.out⟩
      · have hso : R = some (if M = true then -(n : Int) else (n : Int)) := by
          rw [HRT.out]; unfold Cx.toIntT
          rw [← HU.out, if_pos ⟨h0, hi15, by rw [List.all_eq_true]; exact hD⟩, ← hN, HM.out]
          by_cases h : t.head? = some 45
          · rw [if_pos h, if_pos (by simpa using h)]
          · rw [if_neg h, if_neg (by simpa using h)]
        have HSO := Lib.hid hso
        have h0d : (U == []) = false := by simpa using h0
        have hnb : n < 1000000000000000 := Nat.lt_of_lt_of_le hn (Nat.pow_le_pow_right (n := 10) (by omega) hi15)
        clear hso hN hD h0 hn
        cases M with
        | true =>
          go_wp2_with fail
          go_ret2
          rw [HSO.out]
          exact ⟨rfl, HB.out⟩
        | false =>
          go_wp2_with fail
          go_ret2
          rw [HSO.out]
          exact ⟨rfl, HB.out⟩
end Go.Proofs.YtejlddimokmgjaaGreatDoor
