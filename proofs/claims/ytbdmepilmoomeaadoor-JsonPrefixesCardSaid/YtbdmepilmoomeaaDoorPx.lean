/- WALKS: the law JsonPrefixes. -/
import Derived.Test.YtbdmepilmoomeaaDoorSh
import Derived.Test.YtbdmepilmoomeaaDoorCxErr
namespace Go.Proofs.YtbdmepilmoomeaaDoor
open Go.RowKit

set_option maxRecDepth 100000 in
set_option maxHeartbeats 2000000 in
theorem prefixes_calls (v : Cx.J) (cs : List Value) (at' : Int) (w : World) (ok : Nat → Prop) (hj : JAt w ok v cs) (hf : fit maxLen v) (h1 : -9223372036854775808 ≤ at') (_h2 : at' ≤ 9223372036854775807) (hg : Glb w) (h8 : 8 ≤ w.heap.size) :
    Calls Tryd.prog 6 #[.agg cs.toArray, .int .i64 at'] w fun e w' => e = .returned (.bool true) ∧ Below w.heap.size w w' := by
  cases v with
  | mk k is t ns ks =>
  obtain ⟨a, nc, a', kc, rfl⟩ := hj.shape
  have HBX := Lib.hid (heap_alloc_new w (.cells #[.int .i64 k, .bool is, .string ⟨t.toArray⟩, .slice a ns.length nc, .slice a' ks.length kc] 25))
  have HB0 := Lib.hid ((Below.refl w.heap.size w).alloc (Nat.le_refl _) (.cells #[.int .i64 k, .bool is, .string ⟨t.toArray⟩, .slice a ns.length nc, .slice a' ks.length kc] 25))
  have J := Lib.hid hj.all; have F := Lib.hid hf; have HG := Lib.hid hg
  have ha1 : -9223372036854775808 ≤ at' := h1
  clear hj hf hg h1
  go_enter Tryd.func6, Tryd.ntmps6
  go_wp2_with fail
  refine (shown_calls _ (HG.out.below HB0.out) (Nat.le_trans h8 HB0.out.size)).mono ?_
  rintro e w1 ⟨rfl, hb⟩
  have B1 := Lib.hid (HB0.out.trans (hb.mono HB0.out.size))
  have X1 := Lib.hid ((hb.block _ (by simp)).trans HBX.out)
  obtain ⟨q0, q1, q2, q3, q4, _⟩ := cells5 X1.out
  clear hb HBX HB0
  go_wp2_with fail
  refine (light_calls (.mk k is t ns ks) [.int .i64 k, .bool is, .string ⟨t.toArray⟩, .slice a ns.length nc, .slice a' ks.length kc] _ _ (J.out.below B1.out) F.out).mono ?_
  rintro e w2 ⟨r, rfl, hr, hb⟩
  have B2 := Lib.hid (B1.out.trans (hb.mono B1.out.size))
  have X2 := Lib.hid ((hb.block _ (heap_lt X1.out)).trans X1.out)
  have HR := Lib.hid hr
  clear hb hr B1 X1 q0 q1 q2 q3 q4
  obtain ⟨q0, q1, q2, q3, q4, _⟩ := cells5 X2.out
  go_wp2_with fail
  refine (Right_calls (.mk k is t ns ks) [.int .i64 k, .bool is, .string ⟨t.toArray⟩, .slice a ns.length nc, .slice a' ks.length kc] _ _ (J.out.below B2.out) F.out (HG.out.below B2.out) (Nat.le_trans h8 B2.out.size)).mono ?_
  rintro e w3 ⟨rfl, hb⟩
  have B3 := Lib.hid (B2.out.trans (hb.mono B2.out.size))
  have X3 := Lib.hid ((hb.block _ (heap_lt X2.out)).trans X2.out)
  clear hb B2 X2 q0 q1 q2 q3 q4
  obtain ⟨q0, q1, q2, q3, q4, _⟩ := cells5 X3.out
  cases r with
  | false =>
    go_wp2_with fail
    go_ret
    exact ⟨rfl, B3.out⟩
  | true =>
  have HFIT := Lib.hid (HR.out rfl).1
  clear HR
  cases hR : Cx.Right (.mk k is t ns ks) with
  | false =>
    clear hR
    go_wp2_with fail
    go_ret
    exact ⟨rfl, B3.out⟩
  | true =>
  have HRT := Lib.hid hR
  clear hR
  by_cases hk : k < 4
  · go_wp2_with fail
    go_ret
    exact ⟨rfl, B3.out⟩
  · have hkd : decide (k < 4) = false := by simpa using hk
    go_wp2_with fail
    refine (print_calls (.mk k is t ns ks) [.int .i64 k, .bool is, .string ⟨t.toArray⟩, .slice a ns.length nc, .slice a' ks.length kc] _ _ (J.out.below B3.out) (fit_le (by omega) _ HFIT.out) (HG.out.below B3.out) (Nat.le_trans h8 B3.out.size)).mono ?_
    rintro e w4 ⟨rfl, hb⟩
    have B4 := Lib.hid (B3.out.trans (hb.mono B3.out.size))
    clear hb B3 X3 q0 q1 q2 q3 q4
    have hp : Cx.print (.mk k is t ns ks) = Cx.pr (.mk k is t ns ks) := by unfold Cx.print; rw [HRT.out]; rfl
    rw [hp]
    obtain ⟨P, hP⟩ : ∃ P : ByteArray, P = ⟨(Cx.pr (.mk k is t ns ks)).toArray⟩ := ⟨_, rfl⟩
    have hPl : P.data.toList = Cx.pr (.mk k is t ns ks) := by rw [hP]
    have hPs : P.size = (Cx.pr (.mk k is t ns ks)).length := by rw [hP]; simp [ByteArray.size]
    rw [← hP]
    have hne : 0 < P.size := by
      have h0 : Cx.right 0 (.mk k is t ns ks) = true := by
        have := HRT.out
        unfold Cx.Right at this
        simp only [Bool.and_eq_true] at this
        exact this.2
      have := Cx.pr_ne h0
      rw [hPs]
      exact List.length_pos_iff.2 this
    have HPL := Lib.hid hPl; have HPS := Lib.hid hPs
    clear hP hPl hPs hp
    by_cases hl : P.size ≤ 20000
    · have hl1 : ¬ (20000 : Int) < (P.size : Int) := by omega
      have hz : ((P.size : Int) == 0) = false := beq_eq_false_iff_ne.2 (by omega)
      obtain ⟨K, hK, hKl⟩ : ∃ K : Nat, K = (at'.tmod P.size).natAbs ∧ K < P.size := ⟨_, rfl, by
        have := Int.natAbs_tmod at' P.size
        rw [this]
        exact Nat.mod_lt _ (by simpa using hne)⟩
      obtain ⟨er, pp, hpe, hpl⟩ := Cx.parse_prefix (k := K) HRT.out (show 3 < (Cx.J.mk k is t ns ks).kind by show 3 < k; omega) (by rw [← HPS.out]; exact hKl)
      have hne2 := Cx.parse_errne hpe
      have hpt : parseT (P.extract 0 K).data.toList = (.mk 0 false [] [] [], er, pp) := by
        rw [extract_list]
        simp only [List.drop_zero, Nat.sub_zero]
        rw [HPL.out]
        unfold parseT
        rw [hpe]
      have HPT := Lib.hid hpt; have HER := Lib.hid hne2
      have HK := Lib.hid hK
      have hm1 : at'.tmod P.size < 20000 := by omega
      have hm2 : -20000 < at'.tmod P.size := by omega
      clear hpt hne2 hpe hK
      rcases (show at'.tmod P.size < 0 ∨ 0 ≤ at'.tmod P.size by omega) with htst | htst
      · have hKe : (-at'.tmod P.size).toNat = K := by
          rw [HK.out]; omega
        have hb0 : 0 ≤ -at'.tmod P.size := by omega
        have hb1 : -at'.tmod P.size ≤ (P.size : Int) := by omega
        have HKE := Lib.hid hKe
        clear hKe
        go_wp2_with fail
        have hKe := HKE.out
        rw [hKe]
        clear hKe
        refine (parse_calls (P.extract 0 K) _ (HG.out.below B4.out) (Nat.le_trans h8 B4.out.size)).mono ?_
        rintro e w6 ⟨cs6, rfl, hj6, hb⟩
        rw [HPT.out] at hj6 ⊢
        have B6 := Lib.hid (B4.out.trans (hb.mono B4.out.size))
        obtain ⟨xa, xnc, xa', xkc, rfl⟩ := hj6.shape
        have B7 := Lib.hid (B6.out.alloc B6.out.size (.cells #[.int .i64 0, .bool false, .string ⟨([] : List UInt8).toArray⟩, .slice xa ([] : List (List UInt8)).length xnc, .slice xa' ([] : List Cx.J).length xkc] 25))
        have hned : ((er : Int) != 0) = true := by have := HER.out; rw [bne_iff_ne]; omega
        have hpl2 : (pp : Int) ≤ -at'.tmod P.size := by
          have := HK.out
          omega
        have hpl3 : decide ((pp : Int) ≤ -at'.tmod P.size) = true := by simpa using hpl2
        clear hj6 hb
        go_wp2_with fail
        go_ret
        exact ⟨rfl, B7.out⟩
      · have hKe : (at'.tmod P.size).toNat = K := by
          rw [HK.out]; omega
        have hb0 : 0 ≤ at'.tmod P.size := by omega
        have hb1 : at'.tmod P.size ≤ (P.size : Int) := by omega
        have HKE := Lib.hid hKe
        clear hKe
        go_wp2_with fail
        have hKe := HKE.out
        rw [hKe]
        clear hKe
        refine (parse_calls (P.extract 0 K) _ (HG.out.below B4.out) (Nat.le_trans h8 B4.out.size)).mono ?_
        rintro e w6 ⟨cs6, rfl, hj6, hb⟩
        rw [HPT.out] at hj6 ⊢
        have B6 := Lib.hid (B4.out.trans (hb.mono B4.out.size))
        obtain ⟨xa, xnc, xa', xkc, rfl⟩ := hj6.shape
        have B7 := Lib.hid (B6.out.alloc B6.out.size (.cells #[.int .i64 0, .bool false, .string ⟨([] : List UInt8).toArray⟩, .slice xa ([] : List (List UInt8)).length xnc, .slice xa' ([] : List Cx.J).length xkc] 25))
        have hned : ((er : Int) != 0) = true := by have := HER.out; rw [bne_iff_ne]; omega
        have hpl2 : (pp : Int) ≤ at'.tmod P.size := by
          have := HK.out
          omega
        have hpl3 : decide ((pp : Int) ≤ at'.tmod P.size) = true := by simpa using hpl2
        clear hj6 hb
        go_wp2_with fail
        go_ret
        exact ⟨rfl, B7.out⟩
    · have hl1 : (20000 : Int) < (P.size : Int) := by omega
      go_wp2_with fail
      go_ret
      exact ⟨rfl, B4.out⟩
end Go.Proofs.YtbdmepilmoomeaaDoor
