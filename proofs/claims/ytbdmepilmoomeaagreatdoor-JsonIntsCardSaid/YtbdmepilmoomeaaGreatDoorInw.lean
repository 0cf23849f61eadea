/- WALKS: decimal; the law JsonInts. -/
import Derived.Test.YtbdmepilmoomeaaGreatDoorInt
import Derived.Test.YtbdmepilmoomeaaGreatDoorSh
namespace Go.Proofs.YtbdmepilmoomeaaGreatDoor
open Go.RowKit

theorem app_bytes (a b : List UInt8) : ((⟨a.toArray⟩ : ByteArray) ++ ⟨b.toArray⟩) = ⟨(a ++ b).toArray⟩ := by
  apply ByteArray.ext
  simp
theorem digit_piece {n : Nat} (h : n < 10) : (⟨#[48, 49, 50, 51, 52, 53, 54, 55, 56, 57]⟩ : ByteArray).extract n (n + 1) = ⟨#[UInt8.ofNat (48 + n)]⟩ := by
  have : ∀ n : Fin 10, (⟨#[48, 49, 50, 51, 52, 53, 54, 55, 56, 57]⟩ : ByteArray).extract n.val (n.val + 1) = ⟨#[UInt8.ofNat (48 + n.val)]⟩ := by decide
  exact this ⟨n, h⟩

set_option maxRecDepth 100000 in
theorem decimal_nat : ∀ (N n : Nat) (w : World), n ≤ N → n ≤ 999999999999999 →
    Calls Tryz.prog 10 #[.int .i64 n] w fun e w' => e = .returned (.string ⟨(Cx.dec n).toArray⟩) ∧ w' = w := by
  intro N
  induction N with
  | zero =>
    intro n w hn _
    have hn0 : n = 0 := by omega
    subst hn0
    rw [Cx.dec_small (by omega)]
    go_enter Tryz.func10, Tryz.ntmps10
    go_wp2_with fail
    go_ret
    exact ⟨ret_str (by decide), rfl⟩
  | succ N ih =>
    intro n w hn hm
    by_cases h10 : n < 10
    · rw [Cx.dec_small h10]
      have hp := digit_piece h10
      have HP := Lib.hid hp
      have hlt : (n : Int) < 10 := by omega
      clear hp ih
      go_enter Tryz.func10, Tryz.ntmps10
      go_wp2_with fail
      go_ret
      exact ⟨ret_str HP.out, rfl⟩
    · have e := Cx.dec_big h10
      have E := Lib.hid e
      have IH := Lib.hid ih
      have hlt : ¬ (n : Int) < 10 := by omega
      have hlen : (Cx.dec (n / 10)).length + (Cx.dec (n % 10)).length ≤ 30 := by
        have := Cx.dec_length 14 (n / 10) (by omega); have := Cx.dec_length 14 (n % 10) (by omega); omega
      have hq : (n : Int).tdiv 10 = ((n / 10 : Nat) : Int) := by rw [Int.tdiv_eq_ediv_of_nonneg (by omega)]; omega
      have hr : (n : Int).tmod 10 = ((n % 10 : Nat) : Int) := by rw [Int.tmod_eq_emod_of_nonneg (by omega)]; omega
      clear e ih h10
      go_enter Tryz.func10, Tryz.ntmps10
      go_wp2_with fail
      refine (IH.out (n / 10) _ (by omega) (by omega)).mono ?_
      rintro e w' ⟨rfl, rfl⟩
      go_wp2_with fail
      refine (IH.out (n % 10) _ (by omega) (by omega)).mono ?_
      rintro e w' ⟨rfl, rfl⟩
      go_wp2_with fail
      go_ret
      exact ⟨ret_str (by rw [E.out]; exact app_bytes _ _), rfl⟩

set_option maxRecDepth 100000 in
theorem decimal_calls (n : Int) (w : World) (h : -999999999999999 ≤ n) (h' : n ≤ 999999999999999) :
    Calls Tryz.prog 10 #[.int .i64 n] w fun e w' => e = .returned (.string ⟨(Cx.decI n).toArray⟩) ∧ w' = w := by
  by_cases hn : n < 0
  · obtain ⟨k, rfl⟩ : ∃ k : Nat, n = -(k : Int) := ⟨n.natAbs, by omega⟩
    have hd : Cx.decI (-(k : Int)) = 45 :: Cx.dec k := by
      unfold Cx.decI; rw [if_pos hn, show (-(k : Int)).natAbs = k by omega]
    have HD := Lib.hid hd
    have hk1 : k ≤ 999999999999999 := by omega
    have hk0 : 0 < k := by omega
    have hlen : (Cx.dec k).length ≤ 15 := Cx.dec_length 14 k (by omega)
    clear hd
    go_enter Tryz.func10, Tryz.ntmps10
    go_wp2_with fail
    refine (decimal_nat k k _ (Nat.le_refl _) hk1).mono ?_
    rintro e w' ⟨rfl, rfl⟩
    go_wp2_with fail
    go_ret
    exact ⟨ret_str (by rw [HD.out]; rfl), rfl⟩
  · obtain ⟨k, rfl⟩ : ∃ k : Nat, n = (k : Int) := ⟨n.natAbs, by omega⟩
    have hd : Cx.decI (k : Int) = Cx.dec k := by
      unfold Cx.decI; rw [if_neg hn, show ((k : Int)).natAbs = k by omega]
    rw [hd]
    exact decimal_nat k k w (Nat.le_refl _) (by omega)

theorem parseT_num {t : List UInt8} (h : Cx.isNum t) : parseT t = (.mk 3 false t [] [], 0, 0) := by
  unfold parseT; rw [(Cx.parse_num h).1]
theorem fit_num {t : List UInt8} (h : Cx.isNum t) : fit maxLen (.mk 3 false t [] []) := Cx.fit_leaf (by have := Cx.isNum_len h; unfold maxLen; omega)

set_option maxRecDepth 100000 in
set_option maxHeartbeats 4000000 in
theorem ints_calls (n : Int) (w : World) (hg : Glb w) (h8 : 8 ≤ w.heap.size) :
    Calls Tryz.prog 4 #[.int .i64 n] w fun e w' => e = .returned (.bool true) ∧ Below w.heap.size w w' := by
  have HG := Lib.hid hg
  clear hg
  by_cases hlo : n < -999999999999999
  · go_enter Tryz.func4, Tryz.ntmps4
    go_wp2_with fail
    refine (shown_calls _ HG.out h8).mono ?_
    rintro e w1 ⟨rfl, hb⟩
    have B1 := Lib.hid hb
    clear hb
    go_wp2_with fail
    go_ret
    exact ⟨rfl, B1.out⟩
  by_cases hhi : 999999999999999 < n
  · go_enter Tryz.func4, Tryz.ntmps4
    go_wp2_with fail
    refine (shown_calls _ HG.out h8).mono ?_
    rintro e w1 ⟨rfl, hb⟩
    have B1 := Lib.hid hb
    clear hb
    go_wp2_with fail
    go_ret
    exact ⟨rfl, B1.out⟩
  obtain ⟨S, hS⟩ : ∃ S : List UInt8, S = Cx.decI n := ⟨_, rfl⟩
  obtain ⟨S2, hS2⟩ : ∃ S2 : List UInt8, S2 = S ++ [101, 48] := ⟨_, rfl⟩
  have hcat : ((⟨S.toArray⟩ : ByteArray) ++ ⟨#[101, 48]⟩) = ⟨S2.toArray⟩ := by rw [hS2]; exact app_bytes S [101, 48]
  have hn1 := Cx.isNum_decI (n := n) (by omega) (by omega)
  have hn2 := Cx.isNum_decI_e (n := n) (by omega) (by omega)
  have hi1 := Cx.toInt_decI (n := n) (by omega) (by omega)
  have hi2 : Cx.toInt (.mk 3 false S2 [] []) = none := by rw [hS2]; exact Cx.toInt_e
  have hSl : S.length ≤ 16 := by rw [hS]; exact Cx.decI_length (by omega) (by omega)
  rw [← hS] at hn1 hn2 hi1
  rw [← hS2] at hn2
  have HC := Lib.hid hcat
  have hpr := (Cx.parse_num hn1).2
  have hSs : (⟨S.toArray⟩ : ByteArray).size = S.length := by simp [ByteArray.size]
  have HS := Lib.hid hS; have N1 := Lib.hid hn1; have N2 := Lib.hid hn2; have I1 := Lib.hid hi1; have I2 := Lib.hid hi2; have PR := Lib.hid hpr
  clear hS hS2 hcat hn1 hn2 hi1 hi2 hpr
  go_enter Tryz.func4, Tryz.ntmps4
  go_wp2_with fail
  refine (shown_calls _ HG.out h8).mono ?_
  rintro e w1 ⟨rfl, hb⟩
  have B1 := Lib.hid hb
  clear hb
  go_wp2_with fail
  refine (decimal_calls n _ (by omega) (by omega)).mono ?_
  rintro e w2 ⟨rfl, hw2⟩
  subst hw2
  rw [← HS.out]
  go_wp2_with fail
  refine (parse_calls ⟨S.toArray⟩ _ (HG.out.below B1.out) (Nat.le_trans h8 B1.out.size)).mono ?_
  rintro e w3 ⟨cs, rfl, hj, hb⟩
  rw [show (⟨S.toArray⟩ : ByteArray).data.toList = S by simp, parseT_num N1.out] at hj ⊢
  simp only at hj ⊢
  have B3 := Lib.hid (B1.out.trans (hb.mono B1.out.size))
  obtain ⟨V, hV⟩ : ∃ V : Cx.J, V = .mk 3 false S [] [] := ⟨_, rfl⟩
  have hf : fit maxLen V := by rw [hV]; exact fit_num N1.out
  have hf1 : fit 100000 V := by rw [hV]; exact Cx.fit_leaf (by omega)
  have HF1 := Lib.hid hf1
  rw [← hV] at hj
  have HV := Lib.hid hV; have HF := Lib.hid hf
  clear hb hV hf hf1
  cases V with
  | mk k is t ns ks =>
  obtain ⟨a, nc, a', kc, rfl⟩ := hj.shape
  have J4 := Lib.hid (hj.all.below ((Below.refl w3.heap.size w3).alloc (Nat.le_refl _) (.cells #[.int .i64 k, .bool is, .string ⟨t.toArray⟩, .slice a ns.length nc, .slice a' ks.length kc] 26)))
  have B4 := Lib.hid (B3.out.alloc B3.out.size (.cells #[.int .i64 k, .bool is, .string ⟨t.toArray⟩, .slice a ns.length nc, .slice a' ks.length kc] 26))
  have X4 := Lib.hid (heap_alloc_new w3 (.cells #[.int .i64 k, .bool is, .string ⟨t.toArray⟩, .slice a ns.length nc, .slice a' ks.length kc] 26))
  clear hj
  go_wp2_with fail
  refine (int_calls (.mk k is t ns ks) [.int .i64 k, .bool is, .string ⟨t.toArray⟩, .slice a ns.length nc, .slice a' ks.length kc] _ _ J4.out HF.out).mono ?_
  rintro e w5 ⟨rfl, hb⟩
  rw [HV.out, I1.out]
  have B5 := Lib.hid (B4.out.trans (hb.mono B4.out.size))
  have J5 := Lib.hid (J4.out.all.below hb)
  have X5 := Lib.hid ((hb.block _ (heap_lt X4.out)).trans X4.out)
  clear hb
  go_wp2_with fail
  rw [HC.out]
  refine (parse_calls ⟨S2.toArray⟩ _ (HG.out.below B5.out) (Nat.le_trans h8 B5.out.size)).mono ?_
  rintro e w6 ⟨cs, rfl, hj, hb⟩
  rw [show (⟨S2.toArray⟩ : ByteArray).data.toList = S2 by simp, parseT_num N2.out] at hj ⊢
  simp only at hj ⊢
  have B6 := Lib.hid (B5.out.trans (hb.mono B5.out.size))
  have J6 := Lib.hid (J5.out.all.below hb)
  have X6 := Lib.hid ((hb.block _ (heap_lt X5.out)).trans X5.out)
  obtain ⟨V2, hV2⟩ : ∃ V2 : Cx.J, V2 = .mk 3 false S2 [] [] := ⟨_, rfl⟩
  have hf2 : fit maxLen V2 := by rw [hV2]; exact fit_num N2.out
  rw [← hV2] at hj
  have HV2 := Lib.hid hV2; have HF2 := Lib.hid hf2
  clear hb hV2 hf2
  cases V2 with
  | mk k' is' t' ns' ks' =>
  obtain ⟨b, mc, b', lc, rfl⟩ := hj.shape
  have hb7 := (Below.refl w6.heap.size w6).alloc (Nat.le_refl _) (.cells #[.int .i64 k', .bool is', .string ⟨t'.toArray⟩, .slice b ns'.length mc, .slice b' ks'.length lc] 26)
  have Q7 := Lib.hid (hj.all.below hb7)
  have J7 := Lib.hid (J6.out.all.below hb7)
  have X7 := Lib.hid ((hb7.block _ (heap_lt X6.out)).trans X6.out)
  have B7 := Lib.hid (B6.out.trans (hb7.mono B6.out.size))
  clear hj hb7
  go_wp2_with fail
  refine (int_calls (.mk k' is' t' ns' ks') [.int .i64 k', .bool is', .string ⟨t'.toArray⟩, .slice b ns'.length mc, .slice b' ks'.length lc] _ _ Q7.out HF2.out).mono ?_
  rintro e w8 ⟨rfl, hb⟩
  rw [HV2.out, I2.out]
  have B8 := Lib.hid (B7.out.trans (hb.mono B7.out.size))
  have J8 := Lib.hid (J7.out.all.below hb)
  have X8 := Lib.hid ((hb.block _ (heap_lt X7.out)).trans X7.out)
  clear hb
  obtain ⟨d0, d1, d2, d3, d4, _⟩ := cells5 X8.out
  go_wp2_with fail
  refine (print_calls (.mk k is t ns ks) [.int .i64 k, .bool is, .string ⟨t.toArray⟩, .slice a ns.length nc, .slice a' ks.length kc] _ _ J8.out.all HF1.out (HG.out.below B8.out) (Nat.le_trans h8 B8.out.size)).mono ?_
  rintro e w9 ⟨rfl, hb⟩
  rw [HV.out, PR.out]
  have B9 := Lib.hid (B8.out.trans (hb.mono B8.out.size))
  clear hb
  go_wp2_with fail
  go_ret
  exact ⟨rfl, B9.out⟩
end Go.Proofs.YtbdmepilmoomeaaGreatDoor
