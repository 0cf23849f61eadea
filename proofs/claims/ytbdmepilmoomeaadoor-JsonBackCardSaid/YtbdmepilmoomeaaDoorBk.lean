/- WALKS: the law JsonBack. -/
import Derived.Test.YtbdmepilmoomeaaDoorSh
import Derived.Test.YtbdmepilmoomeaaDoorCxErr
import Derived.Test.YtbdmepilmoomeaaDoorCxLen
namespace Go.Proofs.YtbdmepilmoomeaaDoor
open Go.RowKit

set_option maxRecDepth 100000 in
set_option maxHeartbeats 8000000 in
theorem back_calls (v : Cx.J) (cs : List Value) (s : List UInt8) (w : World) (ok : Nat → Prop) (hj : JAt w ok v cs) (hf : fit maxLen v) (hsl : s.length ≤ maxLen) (hg : Glb w) (h8 : 8 ≤ w.heap.size) :
    Calls Tryd.prog 3 #[.agg cs.toArray, .string ⟨s.toArray⟩] w fun e w' => e = .returned (.bool true) ∧ Below w.heap.size w w' := by
  unfold maxLen at hsl
  cases v with
  | mk k is t ns ks =>
  obtain ⟨a, nc, a', kc, rfl⟩ := hj.shape
  have HBX := Lib.hid (heap_alloc_new w (.cells #[.int .i64 k, .bool is, .string ⟨t.toArray⟩, .slice a ns.length nc, .slice a' ks.length kc] 25))
  have HB0 := Lib.hid ((Below.refl w.heap.size w).alloc (Nat.le_refl _) (.cells #[.int .i64 k, .bool is, .string ⟨t.toArray⟩, .slice a ns.length nc, .slice a' ks.length kc] 25))
  have J := Lib.hid hj.all; have F := Lib.hid hf; have HG := Lib.hid hg
  clear hj hf hg
  go_enter Tryd.func3, Tryd.ntmps3
  go_wp2_with fail
  refine (shown_calls _ (HG.out.below HB0.out) (Nat.le_trans h8 HB0.out.size)).mono ?_
  rintro e w1 ⟨rfl, hb⟩
  have B1 := Lib.hid (HB0.out.trans (hb.mono HB0.out.size))
  have X1 := Lib.hid ((hb.block _ (by simp)).trans HBX.out)
  obtain ⟨q0, q1, q2, q3, q4, _⟩ := cells5 X1.out
  clear hb HBX HB0
  go_wp2_with fail
  refine (light_calls (.mk k is t ns ks) [.int .i64 k, .bool is, .string ⟨t.toArray⟩, .slice a ns.length nc, .slice a' ks.length kc] _ _ (J.out.below B1.out) F.out).mono ?_
  rintro e w2 ⟨r, rfl, hr, hb⟩
  have B2 := Lib.hid (B1.out.trans (hb.mono B1.out.size))
  have X2 := Lib.hid ((hb.block _ (heap_lt X1.out)).trans X1.out)
  have HR := Lib.hid hr
  clear hb hr B1 X1 q0 q1 q2 q3 q4
  obtain ⟨q0, q1, q2, q3, q4, _⟩ := cells5 X2.out
  cases r with
  | false =>
    go_wp2_with fail
    go_ret
    exact ⟨rfl, B2.out⟩
  | true =>
  have HFIT := Lib.hid (HR.out rfl).1
  clear HR
  by_cases hs3 : s.length ≤ 3000
  rotate_left
  · have hs3d : (3000 : Int) < (s.length : Int) := by omega
    clear hs3
    go_wp2_with fail
    go_ret
    exact ⟨rfl, B2.out⟩
  have hs3d : ¬ (3000 : Int) < (s.length : Int) := by omega
  go_wp2_with fail
  refine (Right_calls (.mk k is t ns ks) [.int .i64 k, .bool is, .string ⟨t.toArray⟩, .slice a ns.length nc, .slice a' ks.length kc] _ _ (J.out.below B2.out) F.out (HG.out.below B2.out) (Nat.le_trans h8 B2.out.size)).mono ?_
  rintro e w3 ⟨rfl, hb⟩
  have B3 := Lib.hid (B2.out.trans (hb.mono B2.out.size))
  have X3 := Lib.hid ((hb.block _ (heap_lt X2.out)).trans X2.out)
  clear hb B2 X2 q0 q1 q2 q3 q4
  obtain ⟨q0, q1, q2, q3, q4, _⟩ := cells5 X3.out
  go_wp2_with fail
  refine (print_calls (.mk k is t ns ks) [.int .i64 k, .bool is, .string ⟨t.toArray⟩, .slice a ns.length nc, .slice a' ks.length kc] _ _ (J.out.below B3.out) (fit_le (by omega) _ HFIT.out) (HG.out.below B3.out) (Nat.le_trans h8 B3.out.size)).mono ?_
  rintro e w4 ⟨rfl, hb⟩
  have B4 := Lib.hid (B3.out.trans (hb.mono B3.out.size))
  have X4 := Lib.hid ((hb.block _ (heap_lt X3.out)).trans X3.out)
  clear hb B3 X3 q0 q1 q2 q3 q4
  obtain ⟨q0, q1, q2, q3, q4, _⟩ := cells5 X4.out
  cases hR : Cx.Right (.mk k is t ns ks) with
  | false =>
    have hp : Cx.print (.mk k is t ns ks) = [] := by unfold Cx.print; rw [hR]; rfl
    rw [hp]
    clear hR hp
    go_wp2_with fail
    refine (parse_calls ⟨s.toArray⟩ _ (HG.out.below B4.out) (Nat.le_trans h8 B4.out.size)).mono ?_
    rintro e w6 ⟨cs6, rfl, hj6, hb⟩
    rw [show (⟨s.toArray⟩ : ByteArray).data.toList = s by simp] at hj6 ⊢
    have B6 := Lib.hid (B4.out.trans (hb.mono B4.out.size))
    clear hb
    cases hps : Cx.parse s with
    | error xx =>
      obtain ⟨er, pp⟩ := xx
      have hpt : parseT s = (.mk 0 false [] [] [], er, pp) := by unfold parseT; rw [hps]
      rw [hpt] at hj6 ⊢
      have hne := Cx.parse_errne hps
      have hle := Cx.parse_err hps
      simp only at hne hle
      have hned : ((er : Int) != 0) = true := by rw [bne_iff_ne]; omega
      have hpl : (pp : Int) ≤ (s.length : Int) := by omega
      obtain ⟨xa, xnc, xa', xkc, rfl⟩ := hj6.shape
      have B7 := Lib.hid (B6.out.alloc B6.out.size (.cells #[.int .i64 0, .bool false, .string ⟨([] : List UInt8).toArray⟩, .slice xa ([] : List (List UInt8)).length xnc, .slice xa' ([] : List Cx.J).length xkc] 25))
      clear hj6 hpt hps hne hle
      go_wp2_with fail
      go_ret
      exact ⟨rfl, B7.out⟩
    | ok x =>
      have hpt : parseT s = (x, 0, 0) := by unfold parseT; rw [hps]
      rw [hpt] at hj6 ⊢
      have hxr := Cx.parse_right hps
      have hxf : fit 100000 x := fit_le (by omega) _ (Cx.parse_fit hps)
      have hxl : (Cx.pr x).length ≤ 100000 := by have := Cx.parse_len hps; omega
      have hpx := Cx.parse_pr hxr hxl
      cases x with
      | mk xk xis xt xns xks =>
      obtain ⟨xa, xnc, xa', xkc, rfl⟩ := hj6.shape
      have XR := Lib.hid hxr; have XF := Lib.hid hxf; have XP := Lib.hid hpx
      have XF2 := Lib.hid (fit_le (show 100000 ≤ maxLen by unfold maxLen; omega) _ hxf)
      have J7 := Lib.hid (hj6.all.below ((Below.refl w6.heap.size w6).alloc (Nat.le_refl _) (.cells #[.int .i64 xk, .bool xis, .string ⟨xt.toArray⟩, .slice xa xns.length xnc, .slice xa' xks.length xkc] 25))).all
      have B7 := Lib.hid (B6.out.alloc B6.out.size (.cells #[.int .i64 xk, .bool xis, .string ⟨xt.toArray⟩, .slice xa xns.length xnc, .slice xa' xks.length xkc] 25))
      have Y7 := Lib.hid (heap_alloc_new w6 (.cells #[.int .i64 xk, .bool xis, .string ⟨xt.toArray⟩, .slice xa xns.length xnc, .slice xa' xks.length xkc] 25))
      clear hj6 hpt hps hxr hxf hxl hpx
      go_wp2_with fail
      refine (Right_calls (.mk xk xis xt xns xks) [.int .i64 xk, .bool xis, .string ⟨xt.toArray⟩, .slice xa xns.length xnc, .slice xa' xks.length xkc] _ _ J7.out XF2.out (HG.out.below B7.out) (Nat.le_trans h8 B7.out.size)).mono ?_
      rintro e w8 ⟨rfl, hb⟩
      rw [XR.out]
      have B8 := Lib.hid (B7.out.trans (hb.mono B7.out.size))
      have Y8 := Lib.hid ((hb.block _ (heap_lt Y7.out)).trans Y7.out)
      have J8 := Lib.hid (J7.out.below hb).all
      clear hb Y7 J7 B7 B6
      obtain ⟨y0, y1, y2, y3, y4, _⟩ := cells5 Y8.out
      go_wp2_with fail
      refine (print_calls (.mk xk xis xt xns xks) [.int .i64 xk, .bool xis, .string ⟨xt.toArray⟩, .slice xa xns.length xnc, .slice xa' xks.length xkc] _ _ J8.out XF.out (HG.out.below B8.out) (Nat.le_trans h8 B8.out.size)).mono ?_
      rintro e w9 ⟨rfl, hb⟩
      have hpx : Cx.print (.mk xk xis xt xns xks) = Cx.pr (.mk xk xis xt xns xks) := by unfold Cx.print; rw [XR.out]; rfl
      rw [hpx]
      obtain ⟨U, hU⟩ : ∃ U : ByteArray, U = ⟨(Cx.pr (.mk xk xis xt xns xks)).toArray⟩ := ⟨_, rfl⟩
      rw [← hU]
      have HUL : Hid (U.data.toList = Cx.pr (.mk xk xis xt xns xks)) := Lib.hid (by rw [hU])
      have HPU := Lib.hid hpx
      have HU := Lib.hid hU
      have B9 := Lib.hid (B8.out.trans (hb.mono B8.out.size))
      have Y9 := Lib.hid ((hb.block _ (heap_lt Y8.out)).trans Y8.out)
      have J9 := Lib.hid (J8.out.below hb).all
      clear hb Y8 J8 B8 y0 y1 y2 y3 y4 hU hpx
      go_wp2_with fail
      refine (parse_calls U _ (HG.out.below B9.out) (Nat.le_trans h8 B9.out.size)).mono ?_
      rintro e w10 ⟨cs10, rfl, hj10, hb⟩
      rw [HUL.out, show parseT (Cx.pr (.mk xk xis xt xns xks)) = ((.mk xk xis xt xns xks), 0, 0) by unfold parseT; rw [XP.out]] at hj10 ⊢
      obtain ⟨za, znc, za', zkc, rfl⟩ := hj10.shape
      have B10 := Lib.hid (B9.out.trans (hb.mono B9.out.size))
      have Y10 := Lib.hid ((Below.heap_alloc _ (.cells #[.int .i64 xk, .bool xis, .string ⟨xt.toArray⟩, .slice za xns.length znc, .slice za' xks.length zkc] 25) _ (heap_lt ((hb.block _ (heap_lt Y9.out)).trans Y9.out))).trans ((hb.block _ (heap_lt Y9.out)).trans Y9.out))
      have hb11 : Below w10.heap.size w10 (w10.alloc (.cells #[.int .i64 xk, .bool xis, .string ⟨xt.toArray⟩, .slice za xns.length znc, .slice za' xks.length zkc] 25)) := (Below.refl _ _).alloc (Nat.le_refl _) _
      have J11 := Lib.hid ((J9.out.below hb).all.below hb11).all
      have K11 := Lib.hid (hj10.all.below hb11).all
      have B11 := Lib.hid (B10.out.alloc B10.out.size (.cells #[.int .i64 xk, .bool xis, .string ⟨xt.toArray⟩, .slice za xns.length znc, .slice za' xks.length zkc] 25))
      have Z11 := Lib.hid (heap_alloc_new w10 (.cells #[.int .i64 xk, .bool xis, .string ⟨xt.toArray⟩, .slice za xns.length znc, .slice za' xks.length zkc] 25))
      have hsz10 := heap_lt ((hb.block _ (heap_lt Y9.out)).trans Y9.out)
      obtain ⟨y0, y1, y2, y3, y4, _⟩ := cells5 ((hb.block _ (heap_lt Y9.out)).trans Y9.out)
      clear hb hj10 hb11 J9 Y9 B9 B10
      go_wp2_with fail
      refine (same_calls _ (.mk xk xis xt xns xks) (.mk xk xis xt xns xks) [.int .i64 xk, .bool xis, .string ⟨xt.toArray⟩, .slice xa xns.length xnc, .slice xa' xks.length xkc] [.int .i64 xk, .bool xis, .string ⟨xt.toArray⟩, .slice za xns.length znc, .slice za' xks.length zkc] _ _ (Nat.le_refl _) J11.out K11.out XF2.out XF2.out).mono ?_
      rintro e w12 ⟨r2, rfl, hr2, hb⟩
      obtain rfl : r2 = true := hr2.2 rfl
      have B12 := Lib.hid (B11.out.trans (hb.mono B11.out.size))
      have Z12 := Lib.hid ((hb.block _ (heap_lt Z11.out)).trans Z11.out)
      have K12 := Lib.hid (K11.out.below hb).all
      obtain ⟨z0, z1, z2, z3, z4, _⟩ := cells5 Z12.out
      clear hb hr2 J11 K11 B11 Z11 Y10 y0 y1 y2 y3 y4
      go_wp2_with fail
      refine (print_calls (.mk xk xis xt xns xks) [.int .i64 xk, .bool xis, .string ⟨xt.toArray⟩, .slice za xns.length znc, .slice za' xks.length zkc] _ _ K12.out XF.out (HG.out.below B12.out) (Nat.le_trans h8 B12.out.size)).mono ?_
      rintro e w13 ⟨rfl, hb⟩
      rw [HPU.out, ← HU.out]
      have B13 := Lib.hid (B12.out.trans (hb.mono B12.out.size))
      clear hb
      go_wp2
      go_ret
      exact ⟨rfl, B13.out⟩
  | true =>
  have hp : Cx.print (.mk k is t ns ks) = Cx.pr (.mk k is t ns ks) := by unfold Cx.print; rw [hR]; rfl
  rw [hp]
  obtain ⟨P, hP⟩ : ∃ P : ByteArray, P = ⟨(Cx.pr (.mk k is t ns ks)).toArray⟩ := ⟨_, rfl⟩
  have hPl : P.data.toList = Cx.pr (.mk k is t ns ks) := by rw [hP]
  have hPs : P.size = (Cx.pr (.mk k is t ns ks)).length := by rw [hP]; simp [ByteArray.size]
  rw [← hP]
  have hne : 0 < P.size := by
    have h0 : Cx.right 0 (.mk k is t ns ks) = true := by
      have := hR
      unfold Cx.Right at this
      simp only [Bool.and_eq_true] at this
      exact this.2
    have := Cx.pr_ne h0
    rw [hPs]
    exact List.length_pos_iff.2 this
  have hemp : P.data.toList.isEmpty = false := by
    rw [List.isEmpty_eq_false_iff]
    intro e
    rw [hPl] at e
    rw [hPs, e] at hne
    simp at hne
  have hemp2 : P.toList.isEmpty = false := by
    rw [ByteArray.toList_eq]; exact hemp
  have hnil : ¬ P.data.toList = [] := by intro e; rw [e] at hemp; cases hemp
  have HPL := Lib.hid hPl; have HPS := Lib.hid hPs; have HRT := Lib.hid hR
  clear hP hPl hPs hp hR
  by_cases hl : P.size ≤ 100000
  · have hl1 : decide ((P.size : Int) ≤ 100000) = true := by simp; omega
    go_wp2_with fail
    have hpp := Cx.parse_pr HRT.out (by rw [← HPS.out]; exact hl)
    have PP : Hid (parseT P.data.toList = (.mk k is t ns ks, 0, 0)) := Lib.hid (by rw [HPL.out]; unfold parseT; rw [hpp])
    clear hpp
    refine (parse_calls P _ (HG.out.below B4.out) (Nat.le_trans h8 B4.out.size)).mono ?_
    rintro e w5 ⟨cs5, rfl, hj5, hb⟩
    rw [PP.out] at hj5 ⊢
    obtain ⟨ua, unc, ua', ukc, rfl⟩ := hj5.shape
    have V5 := Lib.hid ((Below.heap_alloc _ (.cells #[.int .i64 k, .bool is, .string ⟨t.toArray⟩, .slice ua ns.length unc, .slice ua' ks.length ukc] 25) _ (heap_lt ((hb.block _ (heap_lt X4.out)).trans X4.out))).trans ((hb.block _ (heap_lt X4.out)).trans X4.out))
    have B5 := Lib.hid ((B4.out.trans (hb.mono B4.out.size)).alloc (B4.out.trans (hb.mono B4.out.size)).size (.cells #[.int .i64 k, .bool is, .string ⟨t.toArray⟩, .slice ua ns.length unc, .slice ua' ks.length ukc] 25))
    have hb6 : Below w5.heap.size w5 (w5.alloc (.cells #[.int .i64 k, .bool is, .string ⟨t.toArray⟩, .slice ua ns.length unc, .slice ua' ks.length ukc] 25)) := (Below.refl _ _).alloc (Nat.le_refl _) _
    have J5 := Lib.hid (J.out.below B5.out).all
    have U5 := Lib.hid (hj5.all.below hb6).all
    have hsz5 := heap_lt ((hb.block _ (heap_lt X4.out)).trans X4.out)
    obtain ⟨p0, p1, p2, p3, p4, _⟩ := cells5 ((hb.block _ (heap_lt X4.out)).trans X4.out)
    clear hb hj5 hb6 q0 q1 q2 q3 q4
    go_wp2_with fail
    refine (same_calls _ (.mk k is t ns ks) (.mk k is t ns ks) [.int .i64 k, .bool is, .string ⟨t.toArray⟩, .slice ua ns.length unc, .slice ua' ks.length ukc] [.int .i64 k, .bool is, .string ⟨t.toArray⟩, .slice a ns.length nc, .slice a' ks.length kc] _ _ (Nat.le_refl _) U5.out J5.out F.out F.out).mono ?_
    rintro e w55 ⟨r2, rfl, hr2, hb⟩
    obtain rfl : r2 = true := hr2.2 rfl
    have B55 := Lib.hid (B5.out.trans (hb.mono B5.out.size))
    clear hb hr2 B5 B4 V5 X4 p0 p1 p2 p3 p4
    go_wp2_with fail
    refine (parse_calls ⟨s.toArray⟩ _ (HG.out.below B55.out) (Nat.le_trans h8 B55.out.size)).mono ?_
    rintro e w6 ⟨cs6, rfl, hj6, hb⟩
    rw [show (⟨s.toArray⟩ : ByteArray).data.toList = s by simp] at hj6 ⊢
    have B6 := Lib.hid (B55.out.trans (hb.mono B55.out.size))
    clear hb
    cases hps : Cx.parse s with
    | error xx =>
      obtain ⟨er, pp⟩ := xx
      have hpt : parseT s = (.mk 0 false [] [] [], er, pp) := by unfold parseT; rw [hps]
      rw [hpt] at hj6 ⊢
      have hne := Cx.parse_errne hps
      have hle := Cx.parse_err hps
      simp only at hne hle
      have hned : ((er : Int) != 0) = true := by rw [bne_iff_ne]; omega
      have hpl : (pp : Int) ≤ (s.length : Int) := by omega
      obtain ⟨xa, xnc, xa', xkc, rfl⟩ := hj6.shape
      have B7 := Lib.hid (B6.out.alloc B6.out.size (.cells #[.int .i64 0, .bool false, .string ⟨([] : List UInt8).toArray⟩, .slice xa ([] : List (List UInt8)).length xnc, .slice xa' ([] : List Cx.J).length xkc] 25))
      clear hj6 hpt hps hne hle
      go_wp2_with fail
      go_ret
      exact ⟨rfl, B7.out⟩
    | ok x =>
      have hpt : parseT s = (x, 0, 0) := by unfold parseT; rw [hps]
      rw [hpt] at hj6 ⊢
      have hxr := Cx.parse_right hps
      have hxf : fit 100000 x := fit_le (by omega) _ (Cx.parse_fit hps)
      have hxl : (Cx.pr x).length ≤ 100000 := by have := Cx.parse_len hps; omega
      have hpx := Cx.parse_pr hxr hxl
      cases x with
      | mk xk xis xt xns xks =>
      obtain ⟨xa, xnc, xa', xkc, rfl⟩ := hj6.shape
      have XR := Lib.hid hxr; have XF := Lib.hid hxf; have XP := Lib.hid hpx
      have XF2 := Lib.hid (fit_le (show 100000 ≤ maxLen by unfold maxLen; omega) _ hxf)
      have J7 := Lib.hid (hj6.all.below ((Below.refl w6.heap.size w6).alloc (Nat.le_refl _) (.cells #[.int .i64 xk, .bool xis, .string ⟨xt.toArray⟩, .slice xa xns.length xnc, .slice xa' xks.length xkc] 25))).all
      have B7 := Lib.hid (B6.out.alloc B6.out.size (.cells #[.int .i64 xk, .bool xis, .string ⟨xt.toArray⟩, .slice xa xns.length xnc, .slice xa' xks.length xkc] 25))
      have Y7 := Lib.hid (heap_alloc_new w6 (.cells #[.int .i64 xk, .bool xis, .string ⟨xt.toArray⟩, .slice xa xns.length xnc, .slice xa' xks.length xkc] 25))
      clear hj6 hpt hps hxr hxf hxl hpx
      go_wp2_with fail
      refine (Right_calls (.mk xk xis xt xns xks) [.int .i64 xk, .bool xis, .string ⟨xt.toArray⟩, .slice xa xns.length xnc, .slice xa' xks.length xkc] _ _ J7.out XF2.out (HG.out.below B7.out) (Nat.le_trans h8 B7.out.size)).mono ?_
      rintro e w8 ⟨rfl, hb⟩
      rw [XR.out]
      have B8 := Lib.hid (B7.out.trans (hb.mono B7.out.size))
      have Y8 := Lib.hid ((hb.block _ (heap_lt Y7.out)).trans Y7.out)
      have J8 := Lib.hid (J7.out.below hb).all
      clear hb Y7 J7 B7 B6
      obtain ⟨y0, y1, y2, y3, y4, _⟩ := cells5 Y8.out
      go_wp2_with fail
      refine (print_calls (.mk xk xis xt xns xks) [.int .i64 xk, .bool xis, .string ⟨xt.toArray⟩, .slice xa xns.length xnc, .slice xa' xks.length xkc] _ _ J8.out XF.out (HG.out.below B8.out) (Nat.le_trans h8 B8.out.size)).mono ?_
      rintro e w9 ⟨rfl, hb⟩
      have hpx : Cx.print (.mk xk xis xt xns xks) = Cx.pr (.mk xk xis xt xns xks) := by unfold Cx.print; rw [XR.out]; rfl
      rw [hpx]
      obtain ⟨U, hU⟩ : ∃ U : ByteArray, U = ⟨(Cx.pr (.mk xk xis xt xns xks)).toArray⟩ := ⟨_, rfl⟩
      rw [← hU]
      have HUL : Hid (U.data.toList = Cx.pr (.mk xk xis xt xns xks)) := Lib.hid (by rw [hU])
      have HPU := Lib.hid hpx
      have HU := Lib.hid hU
      have B9 := Lib.hid (B8.out.trans (hb.mono B8.out.size))
      have Y9 := Lib.hid ((hb.block _ (heap_lt Y8.out)).trans Y8.out)
      have J9 := Lib.hid (J8.out.below hb).all
      clear hb Y8 J8 B8 y0 y1 y2 y3 y4 hU hpx
      go_wp2_with fail
      refine (parse_calls U _ (HG.out.below B9.out) (Nat.le_trans h8 B9.out.size)).mono ?_
      rintro e w10 ⟨cs10, rfl, hj10, hb⟩
      rw [HUL.out, show parseT (Cx.pr (.mk xk xis xt xns xks)) = ((.mk xk xis xt xns xks), 0, 0) by unfold parseT; rw [XP.out]] at hj10 ⊢
      obtain ⟨za, znc, za', zkc, rfl⟩ := hj10.shape
      have B10 := Lib.hid (B9.out.trans (hb.mono B9.out.size))
      have Y10 := Lib.hid ((Below.heap_alloc _ (.cells #[.int .i64 xk, .bool xis, .string ⟨xt.toArray⟩, .slice za xns.length znc, .slice za' xks.length zkc] 25) _ (heap_lt ((hb.block _ (heap_lt Y9.out)).trans Y9.out))).trans ((hb.block _ (heap_lt Y9.out)).trans Y9.out))
      have hb11 : Below w10.heap.size w10 (w10.alloc (.cells #[.int .i64 xk, .bool xis, .string ⟨xt.toArray⟩, .slice za xns.length znc, .slice za' xks.length zkc] 25)) := (Below.refl _ _).alloc (Nat.le_refl _) _
      have J11 := Lib.hid ((J9.out.below hb).all.below hb11).all
      have K11 := Lib.hid (hj10.all.below hb11).all
      have B11 := Lib.hid (B10.out.alloc B10.out.size (.cells #[.int .i64 xk, .bool xis, .string ⟨xt.toArray⟩, .slice za xns.length znc, .slice za' xks.length zkc] 25))
      have Z11 := Lib.hid (heap_alloc_new w10 (.cells #[.int .i64 xk, .bool xis, .string ⟨xt.toArray⟩, .slice za xns.length znc, .slice za' xks.length zkc] 25))
      have hsz10 := heap_lt ((hb.block _ (heap_lt Y9.out)).trans Y9.out)
      obtain ⟨y0, y1, y2, y3, y4, _⟩ := cells5 ((hb.block _ (heap_lt Y9.out)).trans Y9.out)
      clear hb hj10 hb11 J9 Y9 B9 B10
      go_wp2_with fail
      refine (same_calls _ (.mk xk xis xt xns xks) (.mk xk xis xt xns xks) [.int .i64 xk, .bool xis, .string ⟨xt.toArray⟩, .slice xa xns.length xnc, .slice xa' xks.length xkc] [.int .i64 xk, .bool xis, .string ⟨xt.toArray⟩, .slice za xns.length znc, .slice za' xks.length zkc] _ _ (Nat.le_refl _) J11.out K11.out XF2.out XF2.out).mono ?_
      rintro e w12 ⟨r2, rfl, hr2, hb⟩
      obtain rfl : r2 = true := hr2.2 rfl
      have B12 := Lib.hid (B11.out.trans (hb.mono B11.out.size))
      have Z12 := Lib.hid ((hb.block _ (heap_lt Z11.out)).trans Z11.out)
      have K12 := Lib.hid (K11.out.below hb).all
      obtain ⟨z0, z1, z2, z3, z4, _⟩ := cells5 Z12.out
      clear hb hr2 J11 K11 B11 Z11 Y10 y0 y1 y2 y3 y4
      go_wp2_with fail
      refine (print_calls (.mk xk xis xt xns xks) [.int .i64 xk, .bool xis, .string ⟨xt.toArray⟩, .slice za xns.length znc, .slice za' xks.length zkc] _ _ K12.out XF.out (HG.out.below B12.out) (Nat.le_trans h8 B12.out.size)).mono ?_
      rintro e w13 ⟨rfl, hb⟩
      rw [HPU.out, ← HU.out]
      have B13 := Lib.hid (B12.out.trans (hb.mono B12.out.size))
      clear hb
      go_wp2
      go_ret
      exact ⟨rfl, B13.out⟩
  · have hl1 : decide ((P.size : Int) ≤ 100000) = false := by simp; omega
    go_wp2_with fail
    refine (parse_calls ⟨s.toArray⟩ _ (HG.out.below B4.out) (Nat.le_trans h8 B4.out.size)).mono ?_
    rintro e w6 ⟨cs6, rfl, hj6, hb⟩
    rw [show (⟨s.toArray⟩ : ByteArray).data.toList = s by simp] at hj6 ⊢
    have B6 := Lib.hid (B4.out.trans (hb.mono B4.out.size))
    clear hb
    cases hps : Cx.parse s with
    | error xx =>
      obtain ⟨er, pp⟩ := xx
      have hpt : parseT s = (.mk 0 false [] [] [], er, pp) := by unfold parseT; rw [hps]
      rw [hpt] at hj6 ⊢
      have hne := Cx.parse_errne hps
      have hle := Cx.parse_err hps
      simp only at hne hle
      have hned : ((er : Int) != 0) = true := by rw [bne_iff_ne]; omega
      have hpl : (pp : Int) ≤ (s.length : Int) := by omega
      obtain ⟨xa, xnc, xa', xkc, rfl⟩ := hj6.shape
      have B7 := Lib.hid (B6.out.alloc B6.out.size (.cells #[.int .i64 0, .bool false, .string ⟨([] : List UInt8).toArray⟩, .slice xa ([] : List (List UInt8)).length xnc, .slice xa' ([] : List Cx.J).length xkc] 25))
      clear hj6 hpt hps hne hle
      go_wp2_with fail
      go_ret
      exact ⟨rfl, B7.out⟩
    | ok x =>
      have hpt : parseT s = (x, 0, 0) := by unfold parseT; rw [hps]
      rw [hpt] at hj6 ⊢
      have hxr := Cx.parse_right hps
      have hxf : fit 100000 x := fit_le (by omega) _ (Cx.parse_fit hps)
      have hxl : (Cx.pr x).length ≤ 100000 := by have := Cx.parse_len hps; omega
      have hpx := Cx.parse_pr hxr hxl
      cases x with
      | mk xk xis xt xns xks =>
      obtain ⟨xa, xnc, xa', xkc, rfl⟩ := hj6.shape
      have XR := Lib.hid hxr; have XF := Lib.hid hxf; have XP := Lib.hid hpx
      have XF2 := Lib.hid (fit_le (show 100000 ≤ maxLen by unfold maxLen; omega) _ hxf)
      have J7 := Lib.hid (hj6.all.below ((Below.refl w6.heap.size w6).alloc (Nat.le_refl _) (.cells #[.int .i64 xk, .bool xis, .string ⟨xt.toArray⟩, .slice xa xns.length xnc, .slice xa' xks.length xkc] 25))).all
      have B7 := Lib.hid (B6.out.alloc B6.out.size (.cells #[.int .i64 xk, .bool xis, .string ⟨xt.toArray⟩, .slice xa xns.length xnc, .slice xa' xks.length xkc] 25))
      have Y7 := Lib.hid (heap_alloc_new w6 (.cells #[.int .i64 xk, .bool xis, .string ⟨xt.toArray⟩, .slice xa xns.length xnc, .slice xa' xks.length xkc] 25))
      clear hj6 hpt hps hxr hxf hxl hpx
      go_wp2_with fail
      refine (Right_calls (.mk xk xis xt xns xks) [.int .i64 xk, .bool xis, .string ⟨xt.toArray⟩, .slice xa xns.length xnc, .slice xa' xks.length xkc] _ _ J7.out XF2.out (HG.out.below B7.out) (Nat.le_trans h8 B7.out.size)).mono ?_
      rintro e w8 ⟨rfl, hb⟩
      rw [XR.out]
      have B8 := Lib.hid (B7.out.trans (hb.mono B7.out.size))
      have Y8 := Lib.hid ((hb.block _ (heap_lt Y7.out)).trans Y7.out)
      have J8 := Lib.hid (J7.out.below hb).all
      clear hb Y7 J7 B7 B6
      obtain ⟨y0, y1, y2, y3, y4, _⟩ := cells5 Y8.out
      go_wp2_with fail
      refine (print_calls (.mk xk xis xt xns xks) [.int .i64 xk, .bool xis, .string ⟨xt.toArray⟩, .slice xa xns.length xnc, .slice xa' xks.length xkc] _ _ J8.out XF.out (HG.out.below B8.out) (Nat.le_trans h8 B8.out.size)).mono ?_
      rintro e w9 ⟨rfl, hb⟩
      have hpx : Cx.print (.mk xk xis xt xns xks) = Cx.pr (.mk xk xis xt xns xks) := by unfold Cx.print; rw [XR.out]; rfl
      rw [hpx]
      obtain ⟨U, hU⟩ : ∃ U : ByteArray, U = ⟨(Cx.pr (.mk xk xis xt xns xks)).toArray⟩ := ⟨_, rfl⟩
      rw [← hU]
      have HUL : Hid (U.data.toList = Cx.pr (.mk xk xis xt xns xks)) := Lib.hid (by rw [hU])
      have HPU := Lib.hid hpx
      have HU := Lib.hid hU
      have B9 := Lib.hid (B8.out.trans (hb.mono B8.out.size))
      have Y9 := Lib.hid ((hb.block _ (heap_lt Y8.out)).trans Y8.out)
      have J9 := Lib.hid (J8.out.below hb).all
      clear hb Y8 J8 B8 y0 y1 y2 y3 y4 hU hpx
      go_wp2_with fail
      refine (parse_calls U _ (HG.out.below B9.out) (Nat.le_trans h8 B9.out.size)).mono ?_
      rintro e w10 ⟨cs10, rfl, hj10, hb⟩
      rw [HUL.out, show parseT (Cx.pr (.mk xk xis xt xns xks)) = ((.mk xk xis xt xns xks), 0, 0) by unfold parseT; rw [XP.out]] at hj10 ⊢
      obtain ⟨za, znc, za', zkc, rfl⟩ := hj10.shape
      have B10 := Lib.hid (B9.out.trans (hb.mono B9.out.size))
      have Y10 := Lib.hid ((Below.heap_alloc _ (.cells #[.int .i64 xk, .bool xis, .string ⟨xt.toArray⟩, .slice za xns.length znc, .slice za' xks.length zkc] 25) _ (heap_lt ((hb.block _ (heap_lt Y9.out)).trans Y9.out))).trans ((hb.block _ (heap_lt Y9.out)).trans Y9.out))
      have hb11 : Below w10.heap.size w10 (w10.alloc (.cells #[.int .i64 xk, .bool xis, .string ⟨xt.toArray⟩, .slice za xns.length znc, .slice za' xks.length zkc] 25)) := (Below.refl _ _).alloc (Nat.le_refl _) _
      have J11 := Lib.hid ((J9.out.below hb).all.below hb11).all
      have K11 := Lib.hid (hj10.all.below hb11).all
      have B11 := Lib.hid (B10.out.alloc B10.out.size (.cells #[.int .i64 xk, .bool xis, .string ⟨xt.toArray⟩, .slice za xns.length znc, .slice za' xks.length zkc] 25))
      have Z11 := Lib.hid (heap_alloc_new w10 (.cells #[.int .i64 xk, .bool xis, .string ⟨xt.toArray⟩, .slice za xns.length znc, .slice za' xks.length zkc] 25))
      have hsz10 := heap_lt ((hb.block _ (heap_lt Y9.out)).trans Y9.out)
      obtain ⟨y0, y1, y2, y3, y4, _⟩ := cells5 ((hb.block _ (heap_lt Y9.out)).trans Y9.out)
      clear hb hj10 hb11 J9 Y9 B9 B10
      go_wp2_with fail
      refine (same_calls _ (.mk xk xis xt xns xks) (.mk xk xis xt xns xks) [.int .i64 xk, .bool xis, .string ⟨xt.toArray⟩, .slice xa xns.length xnc, .slice xa' xks.length xkc] [.int .i64 xk, .bool xis, .string ⟨xt.toArray⟩, .slice za xns.length znc, .slice za' xks.length zkc] _ _ (Nat.le_refl _) J11.out K11.out XF2.out XF2.out).mono ?_
      rintro e w12 ⟨r2, rfl, hr2, hb⟩
      obtain rfl : r2 = true := hr2.2 rfl
      have B12 := Lib.hid (B11.out.trans (hb.mono B11.out.size))
      have Z12 := Lib.hid ((hb.block _ (heap_lt Z11.out)).trans Z11.out)
      have K12 := Lib.hid (K11.out.below hb).all
      obtain ⟨z0, z1, z2, z3, z4, _⟩ := cells5 Z12.out
      clear hb hr2 J11 K11 B11 Z11 Y10 y0 y1 y2 y3 y4
      go_wp2_with fail
      refine (print_calls (.mk xk xis xt xns xks) [.int .i64 xk, .bool xis, .string ⟨xt.toArray⟩, .slice za xns.length znc, .slice za' xks.length zkc] _ _ K12.out XF.out (HG.out.below B12.out) (Nat.le_trans h8 B12.out.size)).mono ?_
      rintro e w13 ⟨rfl, hb⟩
      rw [HPU.out, ← HU.out]
      have B13 := Lib.hid (B12.out.trans (hb.mono B12.out.size))
      clear hb
      go_wp2
      go_ret
      exact ⟨rfl, B13.out⟩

end Go.Proofs.YtbdmepilmoomeaaDoor
