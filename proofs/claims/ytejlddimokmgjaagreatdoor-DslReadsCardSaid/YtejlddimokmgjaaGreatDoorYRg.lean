/- WALKS: a text, as the document's answer reads it. -/
import Derived.Test.YtejlddimokmgjaaGreatDoorYRf
import Derived.Test.YtejlddimokmgjaaGreatDoorKb
namespace Go.Proofs.YtejlddimokmgjaaGreatDoor
open Go.RowKit

theorem app_bytes2 (a b : List UInt8) : ((⟨a.toArray⟩ : ByteArray) ++ ⟨b.toArray⟩) = ⟨(a ++ b).toArray⟩ := by
  apply ByteArray.ext
  simp
theorem Mv.like {b : Nat} {w w' w2 : World} (h : Mv b w w') (h1 : w2.os = w'.os) (h2 : w2.tape = w'.tape) (h3 : w2.output = w'.output) (h4 : w2.heap = w'.heap) : Mv b w w2 :=
  ⟨h1.trans h.os, h2.trans h.tape, h3.trans h.output, by rw [h4]; exact h.size, fun i hi hn => by rw [h4]; exact h.block i hi hn⟩
theorem Mv.likeB {b : Nat} {w w' w2 w3 : World} (h : Mv b w w') (k : Below w2.heap.size w2 w3) (h1 : w2.os = w'.os) (h2 : w2.tape = w'.tape) (h3 : w2.output = w'.output) (h4 : w2.heap = w'.heap) : Mv b w w3 := (h.like h1 h2 h3 h4).below k
theorem R2.likeB {b : Nat} {s : ByteArray} {i m e p : Int} {w' w2 w3 : World} (h : R2 b s i m e p w') (k : Below w2.heap.size w2 w3) (h4 : w2.heap = w'.heap) : R2 b s i m e p w3 := R2.below (show R2 b s i m e p w2 by unfold R2; rw [h4]; exact h) k
theorem rune10_ok (s : ByteArray) (w : World) (hs : s.size ≤ maxLen) (h : Cx.runeLen s.data.toList ≠ 0) :
    Calls Tryz.prog 66 #[.string s] w fun e w' => ∃ v : Int, 0 ≤ v ∧ e = .returned (.tuple #[.int .i64 v, .int .i64 (Cx.runeLen s.data.toList)]) ∧ Below w.heap.size w w' := by
  refine (rune10_calls s w hs).mono ?_
  rintro e w' ⟨hb, h1, _⟩
  obtain ⟨v, hv, he⟩ := h1 h
  exact ⟨v, hv, he, hb⟩
theorem rune10_bad (s : ByteArray) (w : World) (hs : s.size ≤ maxLen) (h : Cx.runeLen s.data.toList = 0) (hne : s.data.toList ≠ []) :
    Calls Tryz.prog 66 #[.string s] w fun e w' => e = .returned (.tuple #[.int .i64 (-1), .int .i64 1]) ∧ Below w.heap.size w w' := by
  refine (rune10_calls s w hs).mono ?_
  rintro e w' ⟨hb, _, h2⟩
  have := h2 h
  rw [if_neg hne] at this
  exact ⟨this, hb⟩

set_option maxRecDepth 100000 in
set_option maxHeartbeats 4000000 in
theorem text2_calls (s : ByteArray) (i : Nat) (m : Int) (b : Nat) (w : World) (h : R2 b s i m 0 0 w) (hq : Cx.peek s.data.toList i = 34) (hs : s.size ≤ 100000) :
    Calls Tryz.prog 126 #[.pointer (some ⟨b, 0, none⟩)] w (RG (Cx.text s.data.toList i) (Text2 b s m) Str b s w) := by
  have q1 := h.c1; have qf := h.fr 1
  have hs' : s.size ≤ maxLen := by unfold maxLen; omega
  have hi : i < s.size := Cx.peek_lt (s := s.data.toList) (by rw [hq]; decide)
  have hsl : s.data.toList.length = s.size := rfl
  obtain ⟨RES, hRES⟩ : ∃ RES, RES = Cx.text s.data.toList i := ⟨_, rfl⟩
  rw [← hRES]
  unfold Cx.text at hRES
  rw [if_pos hq] at hRES
  have HRES := Lib.hid hRES
  have R1 := Lib.hid (h.set1 ((i + 1 : Nat) : Int)); have M1 := Lib.hid ((Mv.refl b w).set (a := ⟨b, 1, none⟩) (.inl rfl) (.int .i64 ((i + 1 : Nat) : Int)))
  clear h hRES hq
  go_enter Tryz.func126, Tryz.ntmps126
  go_wp2_with fail
  go_loopg [3] (s.size - i) (fun q o wr => ∃ acc : List UInt8, o = .string ⟨acc.toArray⟩ ∧ acc.length ≤ 200000 ∧ Hid (Mv b w wr) ∧
    ((∃ j : Nat, i < j ∧ j ≤ s.size ∧ s.size < j + q ∧ acc.length ≤ j ∧ Hid (RES = Cx.textN s.data.toList q j acc) ∧ Hid (R2 b s j m 0 0 wr)) ∨ (∃ (x : Nat × Nat) (j : Nat) (m2 : Int), Hid (RES = .error x) ∧ Hid (x.1 ≠ 0) ∧ j ≤ s.size ∧ Hid (R2 b s j m2 x.1 x.2 wr))))
  case atStart => exact ⟨[], rfl, by simp, M1, .inl ⟨i + 1, by omega, by omega, by omega, by simp, HRES, R1⟩⟩
  case round =>
    clear HRES R1 M1 q1 qf
    obtain ⟨acc, rfl, hal, MV, hst⟩ := hrel
    rcases hst with ⟨j, hij, hjl, hjq, haj, HR, RD⟩ | ⟨x, j, m2, HX, HX1, hjl, RD⟩
    rotate_left
    · have hx0 : ((x.1 : Int) == 0) = false := by have := HX1.out; rw [beq_eq_false_iff_ne]; omega
      go_wp2_with fail
      refine (ok_calls s j m2 _ _ b _ RD.out).mono ?_
      rintro e w' ⟨rfl, hw'⟩
      subst hw'
      rw [hx0]
      go_wp2_with fail
      go_ret
      exact RG.err HX.out MV.out rfl HX1.out hjl RD.out
    obtain ⟨q, rfl⟩ : ∃ q, gk = q + 1 := ⟨gk - 1, by omega⟩
    have hr := HR.out
    rw [Cx.textN_succ] at hr
    clear HR
    have c0 := RD.out.c0; have c1 := RD.out.c1; have hf := RD.out.fr 1
    by_cases hend : j = s.size
    · subst hend
      rw [Cx.peek_end (by omega), if_pos (by decide)] at hr
      have HE := Lib.hid hr
      clear hr
      go_wp2_with fail
      refine (ok_calls s _ m _ _ b _ RD.out).mono ?_
      rintro e w' ⟨rfl, hw'⟩
      subst hw'
      go_wp2_with fail
      go_quiet (fail)
      go_wp2_with fail
      refine (fail_calls s _ m 0 7 _ b _ (RD.out.drewN _)).mono ?_
      rintro e w2 ⟨rfl, k1, k2⟩
      have K1 := Lib.hid k1; have K2 := Lib.hid k2
      clear k1 k2
      go_wp2_with fail
      go_ret
      exact RG.err HE.out ((MV.out.drewN _).trans K2.out) rfl (show (7 : Nat) ≠ 0 by decide) (Nat.le_refl _) K1.out
    have hjlt : j < s.size := by omega
    obtain ⟨c, hc⟩ : ∃ c, c = s[j]'hjlt := ⟨_, rfl⟩
    have hpk : Cx.peek s.data.toList j = c := by rw [hc]; exact peek_size hjlt
    have hcv : ((s[j]'hjlt).toNat : Int) = (c.toNat : Int) := by rw [hc]
    rw [hpk] at hr
    have HPK := Lib.hid hpk
    clear hc hpk
    have hc256 := c.toNat_lt
    by_cases h34 : c = 34
    · subst h34
      rw [if_neg (by decide), if_pos rfl] at hr
      have HE := Lib.hid hr
      clear hr
      go_wp2_with fail
      refine (ok_calls s _ m _ _ b _ RD.out).mono ?_
      rintro e w' ⟨rfl, hw'⟩
      subst hw'
      go_wp2_with fail
      go_quiet (fail)
      go_wp2_with fail
      go_quiet (fail)
      go_wp2_with fail
      go_ret
      exact RG.ok HE.out ((MV.out.drewN _).set (.inl rfl) _) ⟨rfl, (RD.out.drewN _).set1 _⟩
    have n34 : ((c.toNat : Int) == 34) = false := u8ne (k := 34) h34
    by_cases h92 : c = 92
    · subst h92
      rw [if_neg (by decide), if_neg (by decide), if_pos rfl] at hr
      have HE := Lib.hid hr
      clear hr h34
      go_wp2_with fail
      refine (ok_calls s _ m _ _ b _ RD.out).mono ?_
      rintro e w' ⟨rfl, hw'⟩
      subst hw'
      go_wp2_with fail
      go_quiet (fail)
      go_wp2_with fail
      go_quiet (fail)
      go_wp2_with fail
      refine (escape2_calls s j m b _ (RD.out.drewN _) hjlt hs).mono ?_
      intro e w2 hgv
      cases hw : Cx.escape s.data.toList j with
      | error x =>
        obtain ⟨k2, rfl, hx1, j2, m2, hj2, k3⟩ := hgv.of_err hw
        have hr := HE.out
        rw [hw] at hr
        have HE2 := Lib.hid hr; have K2 := Lib.hid ((MV.out.drewN _).trans k2); have K3 := Lib.hid k3; have HX1 := Lib.hid hx1
        clear hr hw hgv k2 k3 hx1 c0 c1 hf
        go_wp2_with fail
        go_roundg q
        case measure => omega
        case rel => exact ⟨acc, congrArg Value.string (by have := app_bytes2 acc []; rw [List.append_nil] at this; exact this), hal, K2, .inr ⟨x, j2, m2, HE2, HX1, hj2, K3⟩⟩
      | ok a =>
        obtain ⟨t, j2⟩ := a
        obtain ⟨⟨rfl, k1⟩, k2⟩ := hgv.of_ok hw
        have hr := HE.out
        rw [hw] at hr
        have hlen := Cx.escape_length hw
        have hok := Cx.escape_ok hw
        have hj2a : j < j2 := hok.1
        have hj2b : j2 ≤ s.size := hok.2.1
        have hcat := app_bytes2 acc t
        have HE2 := Lib.hid hr; have K2 := Lib.hid ((MV.out.drewN _).trans k2); have K1 := Lib.hid k1; have HCAT := Lib.hid hcat
        clear hr hw hgv k2 k1 hok hcat c0 c1 hf
        have htl : acc.length + t.length ≤ 200000 := by omega
        go_wp2_with fail
        go_roundg q
        case measure => omega
        case rel => exact ⟨acc ++ t, by rw [HCAT.out], by simp; omega, K2, .inl ⟨j2, by omega, hj2b, by omega, by simp; omega, HE2, K1⟩⟩
    have n92 : ((c.toNat : Int) == 92) = false := u8ne (k := 92) h92
    by_cases h32 : c < 32
    · rw [if_pos h32] at hr
      have HE := Lib.hid hr
      have hlt32 : (c.toNat : Int) < 32 := by rw [UInt8.lt_iff_toNat_lt] at h32; simp at h32; omega
      clear hr h34 h92 h32
      go_wp2_with fail
      refine (ok_calls s _ m _ _ b _ RD.out).mono ?_
      rintro e w' ⟨rfl, hw'⟩
      subst hw'
      go_wp2_with fail
      go_quiet (fail)
      go_wp2_with fail
      go_quiet (fail)
      go_wp2_with fail
      refine (fail_calls s _ m 0 7 _ b _ (RD.out.drewN _)).mono ?_
      rintro e w2 ⟨rfl, k1, k2⟩
      have K1 := Lib.hid k1; have K2 := Lib.hid ((MV.out.drewN _).trans k2)
      clear k1 k2 c0 c1 hf
      go_wp2_with fail
      go_roundg q
      case measure => omega
      case rel => exact ⟨acc, rfl, hal, K2, .inr ⟨(7, j), j, m, HE, Lib.hid (show (7 : Nat) ≠ 0 by decide), hjl, K1⟩⟩
    have hlt32 : ¬ (c.toNat : Int) < 32 := by rw [UInt8.lt_iff_toNat_lt] at h32; simp at h32; omega
    rw [if_neg h32, if_neg h34, if_neg h92] at hr
    have hdl : (s.extract j s.size).data.toList = s.data.toList.drop j := by rw [extract_list]; simp only; exact List.take_of_length_le (by simp)
    have hdn : s.data.toList.drop j ≠ [] := by
      intro e
      have := congrArg List.length e
      simp at this; omega
    have hds : (s.extract j s.size).size ≤ maxLen := by
      have := congrArg List.length hdl
      simp at this
      show (s.extract j s.size).data.toList.length ≤ maxLen
      rw [hdl]; simp; unfold maxLen; omega
    have HDS := Lib.hid hds
    have hrl := Cx.runeLen_le (s.data.toList.drop j)
    have hrl2 : Cx.runeLen (s.data.toList.drop j) ≤ s.size - j := by have := hrl.1; simpa using this
    obtain ⟨n, hn⟩ : ∃ n, n = Cx.runeLen (s.data.toList.drop j) := ⟨_, rfl⟩
    rw [← hn] at hr hrl2
    have hn2 : Cx.runeLen (s.extract j s.size).data.toList = n := by rw [hdl]; exact hn.symm
    have hdn2 : (s.extract j s.size).data.toList ≠ [] := by rw [hdl]; exact hdn
    have HN2 := Lib.hid hn2; have HDN2 := Lib.hid hdn2
    clear hdl hdn hds hrl hn hn2 hdn2 h34 h92 h32
    by_cases hz : n = 0
    · subst hz
      rw [if_pos rfl] at hr
      have HE := Lib.hid hr
      clear hr
      have hcat := app_bytes2 acc ((s.data.toList.drop j).take (j + 1 - j))
      rw [← extract_list] at hcat
      have HCAT := Lib.hid hcat
      have hxl : ((s.data.toList.drop j).take (j + 1 - j)).length ≤ 1 := Nat.le_trans (List.length_take_le _ _) (by omega)
      have hxs : (s.extract j (j + 1)).size ≤ 1 := by rw [extract_list]; show (List.toArray _).size ≤ 1; rw [List.size_toArray]; exact hxl
      clear hcat
      go_wp2_with fail
      refine (ok_calls s _ m _ _ b _ RD.out).mono ?_
      rintro e w' ⟨rfl, hw'⟩
      subst hw'
      go_wp2_with fail
      go_quiet (fail)
      go_wp2_with fail
      go_quiet (fail)
      go_wp2_with fail
      go_region_held3 (fun w' => w'.cell? ⟨b, 0, none⟩ = some (.string s) ∧ w'.cell? ⟨b, 1, none⟩ = some (.int .i64 j)) (first | exact ⟨c0, c1⟩ | exact ⟨(hb7.cell RD.out.lt).trans c0, (hb7.cell RD.out.lt).trans c1⟩ | go_keep)
        (first | (go_at_call 66; refine (rune10_bad _ _ HDS.out HN2.out HDN2.out).mono ?_; rintro e w7 ⟨rfl, hb7⟩))
      have M7 := Lib.hid (MV.out.likeB hb7 rfl rfl rfl rfl)
      have r7 : R2 b s j m 0 0 w7 := RD.out.likeB hb7 rfl
      have R7 := Lib.hid r7
      clear hb7 r7 c0 c1 hf MV RD
      go_wp2_with fail
      refine (fail_calls s _ m 0 17 _ b _ R7.out).mono ?_
      rintro e w8 ⟨rfl, k1, k2⟩
      have K1 := Lib.hid k1; have K2 := Lib.hid (M7.out.trans k2)
      have c0 := k1.c0; have c1 := k1.c1; have hf := k1.fr 1
      clear k1 k2 M7 R7
      go_wp2_with fail
      go_quiet (fail)
      go_wp2_with fail
      go_roundg q
      case measure => omega
      case rel => exact ⟨_, congrArg Value.string HCAT.out, by rw [List.length_append]; omega, Lib.hid ((K2.out.drewN _).set (.inl rfl) _), .inr ⟨(17, j), j + 1, m, HE, Lib.hid (show (17 : Nat) ≠ 0 by decide), by omega, Lib.hid ((K1.out.drewN _).set1 _)⟩⟩
    · rw [if_neg hz] at hr
      have HE := Lib.hid hr
      clear hr
      obtain ⟨P, hP⟩ : ∃ P : List UInt8, P = (s.data.toList.drop j).take n := ⟨_, rfl⟩
      have hPl : P.length ≤ n := by rw [hP]; exact List.length_take_le _ _
      have hxe : s.extract j (j + n) = ⟨P.toArray⟩ := by rw [extract_list, show j + n - j = n by omega, hP]
      have hxs2 : (s.extract j (j + n)).size ≤ n := by rw [hxe]; show (List.toArray _).size ≤ n; rw [List.size_toArray]; exact hPl
      have hcat : ((⟨acc.toArray⟩ : ByteArray) ++ s.extract j (j + n)) = ⟨(acc ++ P).toArray⟩ := by rw [hxe]; exact app_bytes2 acc P
      rw [← hP] at HE
      have HCAT := Lib.hid hcat; have HXE := Lib.hid hxe
      have HZ : Hid (Cx.runeLen (s.extract j s.size).data.toList ≠ 0) := Lib.hid (by rw [HN2.out]; exact hz)
      clear hcat hP hxe hz
      go_wp2_with fail
      refine (ok_calls s _ m _ _ b _ RD.out).mono ?_
      rintro e w' ⟨rfl, hw'⟩
      subst hw'
      go_wp2_with fail
      go_quiet (fail)
      go_wp2_with fail
      go_quiet (fail)
      go_wp2_with fail
      go_region_held3 (fun w' => w'.cell? ⟨b, 0, none⟩ = some (.string s) ∧ w'.cell? ⟨b, 1, none⟩ = some (.int .i64 j)) (first | exact ⟨c0, c1⟩ | exact ⟨(hb7.cell RD.out.lt).trans c0, (hb7.cell RD.out.lt).trans c1⟩ | go_keep)
        (first | (go_at_call 66; refine (rune10_ok _ _ HDS.out HZ.out).mono ?_; rintro e w7 ⟨v, hv, rfl, hb7⟩; rw [HN2.out]))
      have M7 := Lib.hid (MV.out.likeB hb7 rfl rfl rfl rfl)
      have r7 : R2 b s j m 0 0 w7 := RD.out.likeB hb7 rfl
      have R7 := Lib.hid r7
      have c0 := r7.c0; have c1 := r7.c1; have hf := r7.fr 1
      have hnp : 0 < n := Nat.pos_of_ne_zero (by have := HZ.out; rw [HN2.out] at this; exact this)
      clear hb7 r7 MV RD
      go_wp2_with fail
      go_quiet (fail)
      go_wp2_with fail
      go_roundg q
      case measure => omega
      case rel => exact ⟨_, congrArg Value.string HCAT.out, by rw [List.length_append]; omega, Lib.hid ((M7.out.drewN _).set (.inl rfl) _), .inl ⟨j + n, by omega, by omega, by omega, by rw [List.length_append]; omega, HE, Lib.hid ((R7.out.drewN _).set1 _)⟩⟩
end Go.Proofs.YtejlddimokmgjaaGreatDoor
