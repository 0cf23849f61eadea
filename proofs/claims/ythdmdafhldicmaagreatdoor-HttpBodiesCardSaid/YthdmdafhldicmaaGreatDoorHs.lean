/- WALKS: chunks. -/
import Derived.Test.YthdmdafhldicmaaGreatDoorHq
import Derived.Test.YthdmdafhldicmaaGreatDoorHg
import Derived.Test.YthdmdafhldicmaaGreatDoorHbld
import Derived.Test.YthdmdafhldicmaaGreatDoorHxCh
import Derived.Deep.RegionHeld3
namespace Go.Proofs.YthdmdafhldicmaaGreatDoor
open Go.RowKit Go.Maps Go.WideMaps

/-- What 'chunks' comes to. -/
def ChPost (b : Nat) (s : ByteArray) (r : Hx.Bytes × Nat × Nat) (w : World) (e : Ending) (w' : World) : Prop :=
  e = .returned (.tuple #[.string ⟨r.1.toArray⟩, .int .i64 r.2.1]) ∧ Hr b s r.2.2 w' ∧ Mv b w w'

theorem two_part (s : ByteArray) (k : Nat) : s.extract (min s.size k) (min s.size (k + 2)) = ⟨((s.data.toList.drop k).take 2).toArray⟩ := by
  rw [extract_list]
  congr 2
  have hs : s.data.toList.length = s.size := rfl
  rcases Nat.le_total s.size k with h | h
  · rw [Nat.min_eq_left h, List.drop_eq_nil_of_le (by omega), List.drop_eq_nil_of_le (show s.data.toList.length ≤ k by omega)]
    simp
  · rw [Nat.min_eq_right h]
    rcases Nat.le_total s.size (k + 2) with h2 | h2
    · rw [Nat.min_eq_left h2, List.take_of_length_le (by rw [List.length_drop]; omega), List.take_of_length_le (by rw [List.length_drop]; omega)]
    · rw [Nat.min_eq_right h2, show k + 2 - k = 2 by omega]

/-- The reader, the builder, all else as it was. -/
def Wc (b : Nat) (w : World) (s : ByteArray) (j : Int) (acc : Hx.Bytes) (wr : World) : Prop := Hr b s j wr ∧ Mv b w wr ∧ Bld w.heap.size w.heap.size acc wr
theorem Wc.drew {b : Nat} {w : World} {s : ByteArray} {j : Int} {acc : Hx.Bytes} {wr : World} (h : Wc b w s j acc wr) : Wc b w s j acc wr.drew := ⟨h.1.drew, h.2.1.drew, h.2.2.drewN 1⟩
theorem Wc.wrote {b : Nat} {w : World} {s : ByteArray} {j : Int} {acc acc' : Hx.Bytes} {wr wr' : World} (h : Wc b w s j acc wr) (kb : Bld w.heap.size w.heap.size acc' wr') (kl : Below w.heap.size wr wr') (hb : b < w.heap.size) : Wc b w s j acc' wr' := ⟨h.1.belowB kl hb, h.2.1.belowB kl (Nat.le_refl _), kb⟩
theorem Wc.cells {b : Nat} {w : World} {s : ByteArray} {j : Int} {acc : Hx.Bytes} {wr : World} (h : Wc b w s j acc wr) : wr.cell? ⟨b, 0, none⟩ = some (.string s) ∧ wr.cell? ⟨b, 1, none⟩ = some (.int .i64 j) := ⟨h.1.c0, h.1.c1⟩
theorem kl3 {B : Nat} {w w' : World} (h : Below B w.drew.drew w') : Below B w w' := ⟨h.os, h.tape, h.output, h.size, h.block⟩

set_option maxRecDepth 100000 in
set_option maxHeartbeats 4000000 in
theorem chunks_calls (s : ByteArray) (i : Nat) (b : Nat) (w : World) (h : Hr b s i w) (hi : i ≤ s.size) (hs : s.size ≤ 90000) (hg : Glb w) (h8 : 8 ≤ b) :
    Calls Tryz.prog 40 #[.pointer (some ⟨b, 0, none⟩)] w (ChPost b s (Hx.chunks s.data.toList i) w) := by
  have hbw := h.lt
  have hsl : s.data.toList.length = s.size := rfl
  obtain ⟨R, hR⟩ : ∃ R, R = Hx.chunks s.data.toList i := ⟨_, rfl⟩
  rw [← hR]
  unfold Hx.chunks at hR
  rw [hsl] at hR
  have HR := Lib.hid hR
  have HH := Lib.hid (h.alloc (.cells #[.pointer none, .slice none 0 0] 57))
  have HM := Lib.hid ((Mv.refl b w).alloc (.cells #[.pointer none, .slice none 0 0] 57))
  have HB := Lib.hid (Bld.fresh w)
  have HG := Lib.hid hg
  clear h hR hg
  go_enter Tryz.func40, Tryz.ntmps40
  go_wp2_with fail
  go_loopg [5] (s.size + 1 - i) (fun q z wr => ∃ (j : Nat) (acc : Hx.Bytes), i ≤ j ∧ j ≤ s.size ∧ s.size < j + q ∧ acc.length ≤ 8000 ∧ Hid (R = Hx.chunksN s.data.toList q acc j) ∧ Hid (Bld w.heap.size w.heap.size acc wr) ∧ Hid (Hr b s j wr) ∧ Hid (Mv b w wr))
  case atStart => exact ⟨i, [], Nat.le_refl _, hi, by omega, by simp, HR, HB, HH, HM⟩
  case round =>
    clear HR HH HM HB
    obtain ⟨j, acc, hij, hj, hq, hac, HR, HB, HH, HM⟩ := hrel
    obtain ⟨q, rfl⟩ : ∃ q, gk = q + 1 := ⟨gk - 1, by omega⟩
    have hr := HR.out
    rw [Hx.chunksN_succ] at hr
    have hle := Hx.line_le (s := s.data.toList) (i := j) (most := j + 100) hj
    have hlt := fun h => Hx.line_lt (s := s.data.toList) (i := j) (most := j + 100) h
    have htl := Hx.line_text_le s.data.toList j (j + 100)
    rw [hsl] at hle htl
    obtain ⟨L, hL⟩ : ∃ L, L = Hx.line s.data.toList j (j + 100) := ⟨_, rfl⟩
    rw [← hL] at hr hle htl
    simp only [← hL] at hlt
    have HL := Lib.hid hL; have HR2 := Lib.hid hr
    have HG2 := Lib.hid (HG.out.mv HM.out h8)
    have c1 := HH.out.c1
    have LC := Lib.hid (line_calls s j (j + 100) b _ HH.out hj (by omega) (by omega) HG2.out)
    rw [show ((j + 100 : Nat) : Int) = (j : Int) + 100 by omega] at LC
    clear hL hr HR
    go_wp2_with fail
    refine LC.out.mono ?_
    rintro e w2 ⟨rfl, k1, k2⟩
    rw [← HL.out] at k1 ⊢
    obtain ⟨t, st, j2⟩ := L
    simp only at hle htl hlt k1 ⊢
    have H2 := Lib.hid k1; have M2 := Lib.hid (HM.out.trans k2); have B2 := Lib.hid (HB.out.kept k2 hbw)
    have hr := HR2.out
    simp only at hr
    clear k1 k2 HL HR2 HH HB HM HG2 LC c1
    by_cases h431 : st = 431
    · rw [if_pos h431] at hr
      subst hr h431
      clear hlt
      go_wp2_with fail
      go_ret2
      exact ⟨rfl, H2.out, M2.out⟩
    rw [if_neg h431] at hr
    have n431 : ((st : Int) == 431) = false := by rw [beq_eq_false_iff_ne]; omega
    by_cases hst : st = 200
    rotate_left
    · rw [if_pos hst] at hr
      have n200 : ((st : Int) == 200) = false := by rw [beq_eq_false_iff_ne]; omega
      subst hr
      clear hlt h431 hst
      go_wp2_with fail
      go_ret2
      exact ⟨rfl, H2.out, M2.out⟩
    subst hst
    rw [if_neg (fun h => h rfl)] at hr
    have hlt2 : j < j2 := hlt rfl
    have HR3 := Lib.hid hr
    have HG2 := Lib.hid (HG.out.mv M2.out h8)
    clear hlt hr h431 n431
    go_wp2_with fail
    refine (size_calls t _ HG2.out (by omega)).mono ?_
    rintro e w3 ⟨k, hyes, hno⟩
    have H3 := Lib.hid (H2.out.below k); have M3 := Lib.hid (M2.out.below k); have B3 := Lib.hid (B2.out.below k)
    clear k H2 M2 B2 HG2
    cases hsz : Hx.size t with
    | none =>
      obtain ⟨x, rfl⟩ := hno hsz
      have hr := HR3.out
      rw [hsz] at hr
      simp only at hr
      subst hr
      clear hno hyes hsz HR3
      go_wp2_with fail
      go_ret2
      exact ⟨rfl, H3.out, M3.out⟩
    | some n =>
    obtain ⟨rfl, hn32⟩ := hyes n hsz
    have hr := HR3.out
    rw [hsz] at hr
    simp only at hr
    have HR4 := Lib.hid hr
    clear hno hyes hsz HR3 hr
    go_wp2_with fail
    refine (len_calls _ _ acc _ B3.out).mono ?_
    rintro e w' ⟨rfl, hw'⟩
    have hw' := hw'.symm
    subst hw'
    by_cases hbig : 8000 < n + acc.length
    · have hr := HR4.out
      rw [if_pos hbig] at hr
      have nb : (8000 : Int) - (acc.length : Int) < (n : Int) := by omega
      subst hr
      clear HR4 hbig
      go_wp2_with fail
      go_ret2
      exact ⟨rfl, H3.out, M3.out⟩
    have nb : ¬ (8000 : Int) - (acc.length : Int) < (n : Int) := by omega
    have hr := HR4.out
    rw [if_neg hbig] at hr
    clear HR4
    by_cases hn0 : n = 0
    · rw [if_pos hn0] at hr
      subst hn0
      obtain ⟨FR, hFR⟩ : ∃ FR, FR = Hx.fields s.data.toList j2 (j2 + 2000) := ⟨_, rfl⟩
      rw [← hFR] at hr
      have FC := Lib.hid (fields_calls s j2 (j2 + 2000) b _ H3.out hle.2 (by omega) (by omega) (HG.out.mv M3.out h8) h8)
      rw [← hFR, show ((j2 + 2000 : Nat) : Int) = (j2 : Int) + 2000 by omega] at FC
      have HR5 := Lib.hid hr
      have c1 := H3.out.c1
      have hwb : w.heap.size < (w3 : World).heap.size := (B3.out.lt).2
      clear hFR hr nb hbig
      go_wp2_with fail
      refine FC.out.mono ?_
      rintro e w4 ⟨k1, k2, hno, hyes⟩
      have H4 := Lib.hid k2; have M4 := Lib.hid (M3.out.trans k1); have B4 := Lib.hid (B3.out.kept k1 hbw)
      obtain ⟨fo, st4, j4⟩ := FR
      have hr := HR5.out
      simp only at hr hno hyes k2 H4
      have he : ∃ p, e = .returned (.tuple #[p, .int .i64 st4]) := by
        cases fo with
        | none => exact ⟨_, hno rfl⟩
        | some f => obtain ⟨h1, h2, _⟩ := hyes f rfl; exact ⟨_, by rw [h1, h2]; rfl⟩
      obtain ⟨p, rfl⟩ := he
      have HR6 := Lib.hid hr
      have hw4 : w.heap.size ≤ w4.heap.size := M4.out.size
      clear k1 k2 hno hyes hr HR5 FC H3 M3 B3 c1
      by_cases h431 : st4 = 431
      · have hr := HR6.out
        rw [if_pos h431] at hr
        subst hr h431
        clear HR6
        go_wp2_with fail
        refine (string_calls _ _ acc _ B4.out hw4).mono ?_
        rintro e w5 ⟨rfl, _, k, _⟩
        have H5 := Lib.hid (H4.out.belowB k hbw); have M5 := Lib.hid (M4.out.belowB k (Nat.le_refl _))
        clear k
        go_wp2_with fail
        go_ret2
        exact ⟨rfl, H5.out, M5.out⟩
      · have hr := HR6.out
        rw [if_neg h431] at hr
        have n431 : ((st4 : Int) == 431) = false := by rw [beq_eq_false_iff_ne]; omega
        subst hr
        clear HR6 h431
        go_wp2_with fail
        refine (string_calls _ _ acc _ B4.out hw4).mono ?_
        rintro e w5 ⟨rfl, _, k, _⟩
        have H5 := Lib.hid (H4.out.belowB k hbw); have M5 := Lib.hid (M4.out.belowB k (Nat.le_refl _))
        clear k
        go_wp2_with fail
        go_ret2
        exact ⟨rfl, H5.out, M5.out⟩
    rw [if_neg hn0] at hr
    have n0 : ((n : Int) == 0) = false := by rw [beq_eq_false_iff_ne]; omega
    obtain ⟨T, hT⟩ : ∃ T, T = (s.data.toList.drop (j2 + n)).take 2 := ⟨_, rfl⟩
    rw [← hT] at hr
    have hTl : T.length = min 2 (s.size - (j2 + n)) := by rw [hT, List.length_take, List.length_drop]; rfl
    have hpe := two_part s (j2 + n)
    rw [← hT] at hpe
    obtain ⟨E1, hE1⟩ : ∃ E : Nat, E = min s.size (j2 + n) := ⟨_, rfl⟩
    obtain ⟨E2, hE2⟩ : ∃ E : Nat, E = min s.size (j2 + n + 2) := ⟨_, rfl⟩
    rw [← hE1, ← hE2] at hpe
    have m1 : min (s.size : Int) ((j2 : Int) + (n : Int)) = (E1 : Int) := by omega
    have m2 : min (s.size : Int) ((j2 : Int) + (n : Int) + 2) = (E2 : Int) := by omega
    have m3 : E1 ≤ E2 := by omega
    have m4 : E2 ≤ s.size := by omega
    have HPE := Lib.hid hpe; have HR5 := Lib.hid hr; have HTL := Lib.hid hTl
    have c0 := H3.out.c0; have c1 := H3.out.c1
    clear hT hr hpe hE1 hE2 hTl hbig hn0
    go_upto_region 18 with fail
    go_cut [9] (fun z wr => z = .string ⟨T.toArray⟩ ∧ Hid (Hr b s j2 wr) ∧ Hid (Mv b w wr) ∧ Hid (Bld w.heap.size w.heap.size acc wr))
    case first =>
      go_region
      all_goals
        try go_wp2_with fail
        go_meet
        case rel => exact ⟨by rw [HPE.out], Lib.hid (H3.out.drewN _), Lib.hid (M3.out.drewN _), Lib.hid (B3.out.drewN _)⟩
    case rest =>
    obtain ⟨rfl, H3, M3, B3⟩ := hcut
    clear c0 c1 m1 m2 m3 m4 HPE
    have HP := Lib.hid (fun wq => Tryz.strings_HasPrefix ⟨#[13, 10]⟩ ⟨T.toArray⟩ wq)
    rw [show (⟨T.toArray⟩ : ByteArray).data.toList = T by simp, show (⟨#[13, 10]⟩ : ByteArray).data.toList = [13, 10] from rfl] at HP
    obtain ⟨PF, hPF⟩ : ∃ PF, PF = T.isPrefixOf [13, 10] := ⟨_, rfl⟩
    have HP2 : Hid (∀ wq, Calls Tryz.prog 54 #[.string ⟨#[13, 10]⟩, .string ⟨T.toArray⟩] wq fun e w' => e = .returned (.bool PF) ∧ w' = wq) := Lib.hid fun wq => by rw [hPF]; exact HP.out wq
    have hr := HR5.out
    rw [← hPF] at hr
    clear HP hPF HR5
    cases PF with
    | false =>
      rw [if_pos rfl] at hr
      subst hr
      go_wp2_with fail
      refine (HP2.out _).mono ?_
      rintro e w' ⟨rfl, hw'⟩
      have hw' := hw'.symm
      subst hw'
      go_wp2_with fail
      go_ret2
      exact ⟨rfl, H3.out, M3.out⟩
    | true =>
    rw [if_neg (by decide)] at hr
    by_cases hT2 : T.length < 2
    · rw [if_pos hT2] at hr
      have nT : (T.length : Int) < 2 := by omega
      subst hr
      clear hT2
      go_wp2_with fail
      refine (HP2.out _).mono ?_
      rintro e w' ⟨rfl, hw'⟩
      have hw' := hw'.symm
      subst hw'
      go_wp2_with fail
      go_ret2
      exact ⟨rfl, H3.out, M3.out⟩
    rw [if_neg hT2] at hr
    have nT : ¬ (T.length : Int) < 2 := by omega
    have hroom : j2 + n + 2 ≤ s.size := by have := HTL.out; omega
    obtain ⟨X, hX⟩ : ∃ X, X = (s.data.toList.drop j2).take n := ⟨_, rfl⟩
    have hXl : X.length = n := by rw [hX, List.length_take, List.length_drop, hsl]; omega
    rw [← hX] at hr
    have HR6 := Lib.hid hr; have HX := Lib.hid hX; have HXL := Lib.hid hXl
    have hj2s : j2 ≤ s.size := hle.2
    clear hr hT2 hX hXl
    go_upto_region 19 with fail
    go_wp2_with fail
    refine (HP2.out _).mono ?_
    rintro e w' ⟨rfl, hw'⟩
    have hw' := hw'.symm
    subst hw'
    clear HP2
    go_upto_region 23 with fail
    go_cut [] (fun wr => Hid (Hr b s j2 wr) ∧ Hid (Mv b w wr) ∧ Hid (Bld w.heap.size w.heap.size (acc ++ X) wr))
    case first =>
      obtain ⟨E, hE⟩ : ∃ E, E = j2 + n := ⟨_, rfl⟩
      have mE : (j2 : Int) + (n : Int) = (E : Int) := by omega
      have hE1 : j2 ≤ E := by omega
      have hE2 : E ≤ s.size := by omega
      have hxe : s.extract j2 E = ⟨X.toArray⟩ := by rw [extract_list, HX.out, show E - j2 = n by omega]
      have hxz : (⟨X.toArray⟩ : ByteArray).size = n := by rw [size_list, HXL.out]
      have HXE := Lib.hid hxe; have HXZ := Lib.hid hxz
      have hwr : IntKind.i64.wrap ((j2 : Int) + (n : Int)) = (E : Int) := by
        rw [mE]
        have h1 : E ≤ 90000 := by omega
        unfold IntKind.wrap
        simp [IntKind.signed, IntKind.bits]
        omega
      have hwr2 : IntKind.i64.wrap (E : Int) = (E : Int) := by rw [← mE]; exact hwr.trans mE.symm
      have hwb : w.heap.size ≤ wc.heap.size := M3.out.size
      have c0 := H3.out.c0; have c1 := H3.out.c1
      have WS := Lib.hid (fun (wq : World) h1 h2 h3 => writeString_calls w.heap.size w.heap.size acc ⟨X.toArray⟩ wq h1 h2 h3)
      rw [show (⟨X.toArray⟩ : ByteArray).data.toList = X by simp, size_list, HXL.out] at WS
      have RW : Wc b w s j2 acc wc := ⟨H3.out, M3.out, B3.out⟩
      have hno : acc.length + n ≤ 140737488355328 := by omega
      clear hE hxe hxz H3 M3 B3 hij hj hq hlt2
      go_wp2_with fail
      have RW2 := RW.drew
      clear RW
      go_region_held3 (fun w' => w'.cell? ⟨b, 0, none⟩ = some (.string s) ∧ w'.cell? ⟨b, 1, none⟩ = some (.int .i64 j2)) (first | exact (‹Wc b w s j2 (acc ++ X) _›).cells | exact (‹Wc b w s j2 acc _›).cells | exact ⟨c0, c1⟩)
        ((go_at_call 28; rw [HXE.out]; refine (WS.out _ (‹Wc b w s j2 acc _›).2.2 hno (‹Wc b w s j2 acc _›).2.1.size).mono ?_; rintro e w7 ⟨⟨vv7, rfl⟩, kb, kl, _⟩; have RW8 := (‹Wc b w s j2 acc _›).wrote kb kl hbw))
      all_goals
        try go_wp2_with fail
        go_meet
        case rel =>
          have h := ‹Wc b w s j2 (acc ++ X) _›
          exact ⟨Lib.hid h.1, Lib.hid h.2.1, Lib.hid h.2.2⟩
    case rest =>
    obtain ⟨H4, M4, B4⟩ := hcut
    have c1 := H4.out.c1; have f1 := H4.out.fr 1
    have hv : ((j2 + n + 2 : Nat) : Int) = (j2 : Int) + ((n : Int) + 2) := by omega
    obtain ⟨V, hV⟩ : ∃ V : Nat, V = j2 + n + 2 := ⟨_, rfl⟩
    have hVI : (j2 : Int) + ((n : Int) + 2) = (V : Int) := by omega
    have H5 := Lib.hid (H4.out.set1 (V : Int)); have M5 := Lib.hid (M4.out.set (a := ⟨b, 1, none⟩) (.inl rfl) (.int .i64 (V : Int)))
    have B5 := Lib.hid (B4.out.kept ((Mv.refl b wc).set (a := ⟨b, 1, none⟩) (.inl rfl) (.int .i64 (V : Int))) hbw)
    have HV := Lib.hid hV
    clear hv hV H4 M4 B4
    go_wp2_with fail
    go_roundg q
    case measure => omega
    case rel => exact ⟨V, acc ++ X, by omega, by omega, by omega, by rw [List.length_append, HXL.out]; omega, Lib.hid (by rw [HV.out]; exact HR6.out), B5, H5, M5⟩
end Go.Proofs.YthdmdafhldicmaaGreatDoor
