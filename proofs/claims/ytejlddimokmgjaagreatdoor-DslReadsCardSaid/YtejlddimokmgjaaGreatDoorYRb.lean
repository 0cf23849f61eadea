/- WALKS: a number, as the document's answer reads it. -/
import Derived.Test.YtejlddimokmgjaaGreatDoorYRa
import Derived.Test.YtejlddimokmgjaaGreatDoorKd
import Derived.Test.YtejlddimokmgjaaGreatDoorKf
namespace Go.Proofs.YtejlddimokmgjaaGreatDoor
open Go.RowKit

theorem u8ne {c k : UInt8} (h : c ≠ k) : ((c.toNat : Int) == (k.toNat : Int)) = false := by
  rw [beq_eq_false_iff_ne]; intro e; exact h (UInt8.toNat_inj.1 (by omega))

/-- How far a number is read, or that the reader is in its fault; the result's box is as it was. -/
structure NS (b B : Nat) (s : ByteArray) (i : Nat) (m : Int) (w : World) (r : Cx.Res Nat) (wr : World) : Prop where
  mv : Mv b w wr
  base : B = w.heap.size
  box : wr.heap[B]? = some (.cells zeroJ 48 (0, 0))
  st : (∃ c : Nat, r = .ok c ∧ i ≤ c ∧ c ≤ s.size ∧ R2 b s c m 0 0 wr) ∨ (∃ (x : Nat × Nat) (j : Nat), r = .error x ∧ x.1 ≠ 0 ∧ i ≤ j ∧ j ≤ s.size ∧ R2 b s j m x.1 x.2 wr)
theorem NS.ok {b B : Nat} {s : ByteArray} {i : Nat} {m : Int} {w : World} {r : Cx.Res Nat} {wr w' : World} {r' : Cx.Res Nat} {c : Nat} (h : NS b B s i m w r wr) (hb : b < B) (k : Mv b wr w') (hr : r' = .ok c) (h1 : i ≤ c) (h2 : c ≤ s.size) (h3 : R2 b s c m 0 0 w') : NS b B s i m w r' w' :=
  ⟨h.mv.trans k, h.base, k.heap h.box (by omega), .inl ⟨c, hr, h1, h2, h3⟩⟩
theorem NS.bad {b B : Nat} {s : ByteArray} {i : Nat} {m : Int} {w : World} {r : Cx.Res Nat} {wr w' : World} {r' : Cx.Res Nat} {x : Nat × Nat} {j : Nat} (h : NS b B s i m w r wr) (hb : b < B) (k : Mv b wr w') (hr : r' = .error x) (hx : x.1 ≠ 0) (h1 : i ≤ j) (h2 : j ≤ s.size) (h3 : R2 b s j m x.1 x.2 w') : NS b B s i m w r' w' :=
  ⟨h.mv.trans k, h.base, k.heap h.box (by omega), .inr ⟨x, j, hr, hx, h1, h2, h3⟩⟩
/-- .. one stage behind another. -/
def thenR (r : Cx.Res Nat) (f : Nat → Cx.Res Nat) : Cx.Res Nat := match r with | .error e => .error e | .ok a => f a
theorem number_stages (s : List UInt8) (i : Nat) : Cx.number s i = thenR (thenR (thenR (Cx.numInt s (Cx.opt s [45] i)) (Cx.numFrac s)) (Cx.numExp s)) (fun c => if c - i > 40 then .error (5, i) else .ok c) := by
  unfold Cx.number thenR
  cases Cx.numInt s (Cx.opt s [45] i) with
  | error e => rfl
  | ok a =>
    simp only
    cases Cx.numFrac s a with
    | error e => rfl
    | ok c =>
      simp only
      cases Cx.numExp s c <;> rfl

theorem NS.rd {b B : Nat} {s : ByteArray} {i : Nat} {m : Int} {w : World} {c : Nat} {wr : World} (h : NS b B s i m w (.ok c) wr) : i ≤ c ∧ c ≤ s.size ∧ R2 b s c m 0 0 wr := by
  rcases h.st with ⟨c', hc, h1, h2, h3⟩ | ⟨x, j, hx, _⟩
  · injection hc with hc; subst hc; exact ⟨h1, h2, h3⟩
  · cases hx
theorem NS.fin {b B : Nat} {s : ByteArray} {i : Nat} {m : Int} {w : World} {r : Cx.Res Nat} {wr w' : World} (h : NS b B s i m w r wr) (hb : b < B) (k : Mv b wr w') (t : Value) {j e p : Int} (hr : R2 b s j m e p w') :
    w'.heap[B]? = some (.cells zeroJ 48 (0, 0)) ∧ Mv b w (put5 w' B (.int .i64 3) (.bool false) t (.slice none 0 0) (.slice none 0 0)) ∧ R2 b s j m e p (put5 w' B (.int .i64 3) (.bool false) t (.slice none 0 0) (.slice none 0 0)) := by
  have hB := h.base
  refine ⟨k.heap h.box (by omega), put5_mv (h.mv.trans k) (by omega), ?_⟩
  unfold R2; rw [put5_other (by omega)]; exact hr

/-- What 'number' hands back. -/
def NumAt (b : Nat) (s : ByteArray) (i : Nat) (m : Int) (j : Nat) (e : Ending) (w' : World) : Prop :=
  e = .returned (.agg #[.int .i64 3, .bool false, .string ⟨((s.data.toList.drop i).take (j - i)).toArray⟩, .slice none 0 0, .slice none 0 0]) ∧ R2 b s j m 0 0 w'
def NumBad (e : Ending) (_ : World) : Prop := ∃ t : List UInt8, e = .returned (.agg #[.int .i64 3, .bool false, .string ⟨t.toArray⟩, .slice none 0 0, .slice none 0 0])

theorem next_mv (s : ByteArray) (i : Nat) (m y p : Int) (b : Nat) (w : World) (h : R2 b s i m y p w) (hs : s.size ≤ maxLen) :
    Calls Tryz.prog 123 #[.pointer (some ⟨b, 0, none⟩)] w fun e w' => e = .returned (.int .u8 (Cx.peek s.data.toList i).toNat) ∧ R2 b s i m y p w' ∧ Mv b w w' := by
  refine (next_calls s i m y p b w h hs).mono ?_
  rintro e w' ⟨rfl, n, rfl⟩
  exact ⟨rfl, h.drewN n, (Mv.refl b w).drewN n⟩

set_option maxRecDepth 100000 in
set_option maxHeartbeats 4000000 in
theorem number2_calls (s : ByteArray) (i : Nat) (m : Int) (b : Nat) (w : World) (h : R2 b s i m 0 0 w) (hle : i ≤ s.size) (hs : s.size ≤ maxLen) :
    Calls Tryz.prog 129 #[.pointer (some ⟨b, 0, none⟩)] w (RG (Cx.number s.data.toList i) (NumAt b s i m) NumBad b s w) := by
  have hs' := hs
  have hbl := h.lt
  unfold maxLen at hs
  obtain ⟨B, hB⟩ : ∃ B, B = w.heap.size := ⟨_, rfl⟩
  have hbB : b < B := by omega
  obtain ⟨w1, hw1⟩ : ∃ w1, w1 = w.alloc (.cells #[.int .i64 0, .bool false, .string ⟨#[]⟩, .slice none 0 0, .slice none 0 0] 48) := ⟨_, rfl⟩
  have hrd1 : R2 b s i m 0 0 w1 := by rw [hw1]; exact h.alloc _
  have hbox1 : w1.heap[B]? = some (.cells zeroJ 48 (0, 0)) := by rw [hw1, hB]; exact heap_alloc_new w _
  have hmv1 : Mv b w w1 := by rw [hw1]; exact (Mv.refl b w).alloc _
  have c1 := hrd1.c1
  rw [hw1] at c1
  have RD := Lib.hid hrd1; have MV := Lib.hid hmv1; have BX := Lib.hid hbox1; have HB := Lib.hid hB; have HW1 := Lib.hid hw1
  clear h hrd1 hmv1 hbox1 hbl hB hw1
  go_enter Tryz.func129, Tryz.ntmps129
  go_wp2_with fail
  rw [← HW1.out, ← HB.out]
  refine (next_calls s i m 0 0 b _ RD.out hs').mono ?_
  rintro e w2 ⟨rfl, n, hw2⟩
  have RD2 : Hid (R2 b s i m 0 0 w2) := Lib.hid (by rw [hw2]; exact RD.out.drewN n)
  have MV2 : Hid (Mv b w w2) := Lib.hid (by rw [hw2]; exact MV.out.drewN n)
  have BX2 : Hid (w2.heap[B]? = some (.cells zeroJ 48 (0, 0))) := Lib.hid (by rw [hw2]; exact BX.out)
  clear hw2 c1
  go_upto_if 10 with fail
  go_cut [2, 3] (fun y x wr => y = .pointer (some ⟨B, 0, none⟩) ∧ x = .int .i64 i ∧ ∃ p : Nat, p = Cx.opt s.data.toList [45] i ∧ i ≤ p ∧ p ≤ s.size ∧ Hid (NS b B s i m w (.ok p) wr))
  case first =>
    by_cases h45 : Cx.peek s.data.toList i = 45
    · have hlt : i < s.size := Cx.peek_lt (s := s.data.toList) (by rw [h45]; decide)
      have q1 := RD2.out.c1; have qf := RD2.out.fr 1
      rw [h45]
      have ho : i + 1 = Cx.opt s.data.toList [45] i := by rw [opt_in]; simp [h45]
      have HO := Lib.hid ho
      clear h45 ho
      go_wp2_with fail
      go_meet
      case rel => exact ⟨by rw [HB.out], rfl, i + 1, HO.out, by omega, by omega, Lib.hid ⟨MV2.out.set (.inl rfl) _, HB.out, by rw [Below.heap_setCell _ _ _ _ (by show B ≠ b; omega)]; exact BX2.out, .inl ⟨i + 1, rfl, by omega, by omega, RD2.out.set1 _⟩⟩⟩
    · have n45 : (((Cx.peek s.data.toList i).toNat : Int) == 45) = false := u8ne (k := 45) h45
      have ho : i = Cx.opt s.data.toList [45] i := by rw [opt_out]; simpa using h45
      have HO := Lib.hid ho
      clear h45 ho
      go_wp2_with fail
      go_meet
      case rel => exact ⟨by rw [HB.out], rfl, i, HO.out, by omega, by omega, Lib.hid ⟨MV2.out, HB.out, BX2.out, .inl ⟨i, rfl, by omega, by omega, RD2.out⟩⟩⟩
  case rest =>
    obtain ⟨rfl, rfl, p, hp, hip, hpl, N1⟩ := hcut
    have HP := Lib.hid hp
    clear hp RD2 MV2 BX2 RD MV BX
    obtain ⟨c, hc, _, _, hrd⟩ | ⟨x, j, hx, _⟩ := N1.out.st
    rotate_left
    · cases hx
    injection hc with hc
    subst hc
    have RDP := Lib.hid hrd
    clear hrd
    -- the digits ahead
    go_upto_if 20 with (go_at_call 123; refine (next_mv s p m 0 0 b _ RDP.out hs').mono ?_; rintro e w3 ⟨rfl, k1, k2⟩)
    have RD3 := Lib.hid k1
    have N3 : Hid (NS b B s i m w (.ok p) w3) := Lib.hid (N1.out.ok hbB k2 rfl hip hpl k1)
    clear k1 k2
    go_cut [2, 3] (fun y x wr => y = .pointer (some ⟨B, 0, none⟩) ∧ x = .int .i64 i ∧ Hid (NS b B s i m w (Cx.numInt s.data.toList p) wr))
    case first =>
      by_cases h48 : Cx.peek s.data.toList p = 48
      · have hlt : p < s.size := Cx.peek_lt (s := s.data.toList) (by rw [h48]; decide)
        have q1 := RD3.out.c1; have qf := RD3.out.fr 1
        rw [h48]
        have ho : Cx.numInt s.data.toList p = .ok (p + 1) := by unfold Cx.numInt; rw [opt_in (by simp [h48]), if_neg (by omega)]
        have HO := Lib.hid ho
        clear h48 ho
        go_wp2_with fail
        go_meet
        case rel => exact ⟨rfl, rfl, Lib.hid (N3.out.ok hbB ((Mv.refl b _).set (.inl rfl) _) HO.out (by omega) (by omega) (RD3.out.set1 _))⟩
      · have n48 : (((Cx.peek s.data.toList p).toNat : Int) == 48) = false := u8ne (k := 48) h48
        have ho : Cx.numInt s.data.toList p = Cx.digits s.data.toList p := by unfold Cx.numInt; rw [opt_out (by simpa using h48), if_pos rfl]
        have HO := Lib.hid ho
        clear h48 ho
        go_wp2_with fail
        refine (row_calls s p m b _ RD3.out hpl hs').mono ?_
        rintro e w4 ⟨rfl, hm4, hr4⟩
        have M4 := Lib.hid hm4; have R4 := Lib.hid hr4
        clear hm4 hr4
        go_wp2_with fail
        go_meet
        case rel =>
          refine ⟨rfl, rfl, Lib.hid ?_⟩
          rcases R4.out with ⟨hd, hr⟩ | ⟨hd, hr⟩
          · exact N3.out.ok hbB M4.out (HO.out.trans hd) (Nat.le_trans hip Cx.skipD_le) (Cx.skipD_len (s := s.data.toList) hpl) hr
          · exact N3.out.bad hbB M4.out (HO.out.trans hd) (show (7 : Nat) ≠ 0 by decide) hip hpl hr
    case rest =>
    obtain ⟨rfl, rfl, NA⟩ := hcut
    clear N1 N3 RDP RD3
    rcases NA.out.st with hst | hst
    rotate_left
    · obtain ⟨x, j, hx, hx1, hij, hjl, hrd⟩ := hst
      have hx0 : ((x.1 : Int) == 0) = false := by rw [beq_eq_false_iff_ne]; omega
      have RDX := Lib.hid hrd
      have HX := Lib.hid hx; have HX1 := Lib.hid hx1
      have q0 := hrd.c0; have q1 := hrd.c1
      obtain ⟨r0, r1, r2, r3, r4, rf⟩ := cells5 NA.out.box
      have rf0 := rf 0; have rf1 := rf 1; have rf2 := rf 2; have rf3 := rf 3; have rf4 := rf 4
      have nb : b ≠ B := by omega
      clear rf
      clear hx hx1 hrd
      go_wp2_with (go_at_call 80; refine (ok_calls s _ m _ _ b _ RDX.out).mono ?_; rintro e w' ⟨rfl, hw'⟩; rw [hx0]; subst hw')
      obtain ⟨hbx, hmv, hrr⟩ := NA.out.fin hbB (Mv.refl b _) (.string (s.extract i j)) RDX.out
      obtain ⟨z0, z1, z2, z3, z4, _⟩ := cells5 (put5_heap (a := .int .i64 3) (b := .bool false) (c := .string (s.extract i j)) (d := .slice none 0 0) (e := .slice none 0 0) hbx)
      have hZ := Lib.hid (And.intro z0 (And.intro z1 (And.intro z2 (And.intro z3 z4)))); have HMV := Lib.hid hmv; have HRR := Lib.hid hrr
      clear z0 z1 z2 z3 z4 hbx hmv hrr
      go_region
      go_wp2_with fail
      obtain ⟨z0, z1, z2, z3, z4⟩ := hZ.out
      refine bodyPost_ret (v := .agg #[.int .i64 3, .bool false, .string (s.extract i j), .slice none 0 0, .slice none 0 0]) (by simp [results, Tryz.results129, go_sem, z0, z1, z2, z3, z4]) rfl ?_
      exact RG.err (by rw [number_stages, ← HP.out, HX.out]; rfl) HMV.out.drew ⟨_, by rw [extract_list]⟩ HX1.out hjl HRR.out.drew
    obtain ⟨c, hc, hic, hcl, hrd⟩ := hst
    have RDC := Lib.hid hrd; have HC := Lib.hid hc
    clear hrd hc
    -- the fraction
    go_upto_if 36 with (first
      | (go_at_call 80; refine (ok_calls s _ m _ _ b _ RDC.out).mono ?_; rintro e w' ⟨rfl, hw'⟩; subst hw')
      | (go_at_call 123; refine (next_mv s c m 0 0 b _ RDC.out hs').mono ?_; rintro e w3 ⟨rfl, k1, k2⟩))
    have RD3 := Lib.hid k1
    have N3 := Lib.hid (NA.out.ok hbB k2 HC.out hic hcl k1)
    clear k1 k2
    go_cut [2, 3] (fun y x wr => y = .pointer (some ⟨B, 0, none⟩) ∧ x = .int .i64 i ∧ Hid (NS b B s i m w (thenR (Cx.numInt s.data.toList p) (Cx.numFrac s.data.toList)) wr))
    case first =>
      by_cases h46 : Cx.peek s.data.toList c = 46
      · have hlt : c < s.size := Cx.peek_lt (s := s.data.toList) (by rw [h46]; decide)
        have q1 := RD3.out.c1; have qf := RD3.out.fr 1
        rw [h46]
        have ho : thenR (Cx.numInt s.data.toList p) (Cx.numFrac s.data.toList) = Cx.digits s.data.toList (c + 1) := by rw [HC.out]; show Cx.numFrac s.data.toList c = _; unfold Cx.numFrac; rw [opt_in (by simp [h46]), if_neg (by omega)]
        have HO := Lib.hid ho
        have R4 := Lib.hid (RD3.out.set1 ((c + 1 : Nat) : Int))
        have M4 := Lib.hid ((Mv.refl b w3).set (a := ⟨b, 1, none⟩) (.inl rfl) (.int .i64 ((c + 1 : Nat) : Int)))
        clear h46 ho
        go_wp2_with fail
        refine (row_calls s (c + 1) m b _ R4.out (by omega) hs').mono ?_
        rintro e w4 ⟨rfl, hm4, hr4⟩
        have M5 := Lib.hid (M4.out.trans hm4); have R5 := Lib.hid hr4
        clear hm4 hr4
        go_wp2_with fail
        go_meet
        case rel =>
          refine ⟨rfl, rfl, Lib.hid ?_⟩
          rcases R5.out with ⟨hd, hr⟩ | ⟨hd, hr⟩
          · exact N3.out.ok hbB M5.out (HO.out.trans hd) (Nat.le_trans (Nat.le_succ_of_le hic) Cx.skipD_le) (Cx.skipD_len (s := s.data.toList) (show c + 1 ≤ s.data.toList.length from hlt)) hr
          · exact N3.out.bad hbB M5.out (HO.out.trans hd) (show (7 : Nat) ≠ 0 by decide) (Nat.le_succ_of_le hic) hlt hr
      · have n46 : (((Cx.peek s.data.toList c).toNat : Int) == 46) = false := u8ne (k := 46) h46
        have ho : thenR (Cx.numInt s.data.toList p) (Cx.numFrac s.data.toList) = .ok c := by rw [HC.out]; show Cx.numFrac s.data.toList c = _; unfold Cx.numFrac; rw [opt_out (by simpa using h46), if_pos rfl]
        have HO := Lib.hid ho
        clear h46 ho
        go_wp2_with fail
        go_meet
        case rel => exact ⟨rfl, rfl, Lib.hid (N3.out.ok hbB (Mv.refl b _) HO.out hic hcl RD3.out)⟩
    case rest =>
    obtain ⟨rfl, rfl, NB⟩ := hcut
    clear NA N3 RDC RD3 HC
    clear hic hcl
    clear c
    rcases NB.out.st with hst | hst
    rotate_left
    · obtain ⟨x, j, hx, hx1, hij, hjl, hrd⟩ := hst
      have hx0 : ((x.1 : Int) == 0) = false := by rw [beq_eq_false_iff_ne]; omega
      have RDX := Lib.hid hrd
      have HX := Lib.hid hx; have HX1 := Lib.hid hx1
      have q0 := hrd.c0; have q1 := hrd.c1
      obtain ⟨r0, r1, r2, r3, r4, rf⟩ := cells5 NB.out.box
      have rf0 := rf 0; have rf1 := rf 1; have rf2 := rf 2; have rf3 := rf 3; have rf4 := rf 4
      have nb : b ≠ B := by omega
      clear rf
      clear hx hx1 hrd
      go_wp2_with (go_at_call 80; refine (ok_calls s _ m _ _ b _ RDX.out).mono ?_; rintro e w' ⟨rfl, hw'⟩; rw [hx0]; subst hw')
      obtain ⟨hbx, hmv, hrr⟩ := NB.out.fin hbB (Mv.refl b _) (.string (s.extract i j)) RDX.out
      obtain ⟨z0, z1, z2, z3, z4, _⟩ := cells5 (put5_heap (a := .int .i64 3) (b := .bool false) (c := .string (s.extract i j)) (d := .slice none 0 0) (e := .slice none 0 0) hbx)
      have hZ := Lib.hid (And.intro z0 (And.intro z1 (And.intro z2 (And.intro z3 z4)))); have HMV := Lib.hid hmv; have HRR := Lib.hid hrr
      clear z0 z1 z2 z3 z4 hbx hmv hrr
      go_region
      go_wp2_with fail
      obtain ⟨z0, z1, z2, z3, z4⟩ := hZ.out
      refine bodyPost_ret (v := .agg #[.int .i64 3, .bool false, .string (s.extract i j), .slice none 0 0, .slice none 0 0]) (by simp [results, Tryz.results129, go_sem, z0, z1, z2, z3, z4]) rfl ?_
      exact RG.err (by rw [number_stages, ← HP.out, HX.out]; rfl) HMV.out.drew ⟨_, by rw [extract_list]⟩ HX1.out hjl HRR.out.drew
    obtain ⟨c, hc, hic, hcl, hrd⟩ := hst
    have RDC := Lib.hid hrd; have HC := Lib.hid hc
    have hrdc := hrd
    clear hrd hc
    -- the exponent
    go_upto_region 10 with fail
    go_cut [2, 3, 57] (fun y x f wr => y = .pointer (some ⟨B, 0, none⟩) ∧ x = .int .i64 i ∧ f = .bool (decide (Cx.peek s.data.toList c = 101 ∨ Cx.peek s.data.toList c = 69)) ∧ Hid (NS b B s i m w (.ok c) wr))
    case first =>
      by_cases h1 : Cx.peek s.data.toList c = 101
      · have p1 : (((Cx.peek s.data.toList c).toNat : Int) == 101) = true := by rw [h1]; rfl
        have H1 := Lib.hid h1
        clear h1
        go_wp2_with (first | (go_at_call 80; refine (ok_calls s _ m _ _ b _ RDC.out).mono ?_; rintro e w' ⟨rfl, hw'⟩; subst hw') | (go_at_call 123; refine (next_mv s c m 0 0 b _ ‹R2 b s (c : Int) m 0 0 _› hs').mono ?_; rintro e w3 ⟨rfl, k1, k2⟩))
        go_meet
        case rel => exact ⟨rfl, rfl, by simp [H1.out], Lib.hid (NB.out.ok hbB (by assumption) rfl hic hcl (by assumption))⟩
      · have p1 : (((Cx.peek s.data.toList c).toNat : Int) == 101) = false := u8ne (k := 101) h1
        have H1 := Lib.hid h1
        clear h1
        by_cases h2 : Cx.peek s.data.toList c = 69
        · have p2 : (((Cx.peek s.data.toList c).toNat : Int) == 69) = true := by rw [h2]; rfl
          have H2 := Lib.hid h2
          clear h2
          go_wp2_with (first | (go_at_call 80; refine (ok_calls s _ m _ _ b _ RDC.out).mono ?_; rintro e w' ⟨rfl, hw'⟩; subst hw') | (go_at_call 123; refine (next_mv s c m 0 0 b _ ‹R2 b s (c : Int) m 0 0 _› hs').mono ?_; rintro e w3 ⟨rfl, k1, k2⟩))
          go_meet
          case rel => exact ⟨rfl, rfl, by simp [H2.out], Lib.hid (NB.out.ok hbB (Mv.trans (by assumption) (by assumption)) rfl hic hcl (by assumption))⟩
        · have p2 : (((Cx.peek s.data.toList c).toNat : Int) == 69) = false := u8ne (k := 69) h2
          have H2 := Lib.hid h2
          clear h2
          go_wp2_with (first | (go_at_call 80; refine (ok_calls s _ m _ _ b _ RDC.out).mono ?_; rintro e w' ⟨rfl, hw'⟩; subst hw') | (go_at_call 123; refine (next_mv s c m 0 0 b _ ‹R2 b s (c : Int) m 0 0 _› hs').mono ?_; rintro e w3 ⟨rfl, k1, k2⟩))
          go_meet
          case rel => exact ⟨rfl, rfl, by simp [H1.out, H2.out], Lib.hid (NB.out.ok hbB (Mv.trans (by assumption) (by assumption)) rfl hic hcl (by assumption))⟩
    case rest =>
    obtain ⟨rfl, rfl, rfl, NC⟩ := hcut
    clear NB RDC hrdc
    have RDC := Lib.hid NC.out.rd.2.2
    go_upto_if 57 with fail
    go_cut [2, 3] (fun y x wr => y = .pointer (some ⟨B, 0, none⟩) ∧ x = .int .i64 i ∧ Hid (NS b B s i m w (thenR (thenR (Cx.numInt s.data.toList p) (Cx.numFrac s.data.toList)) (Cx.numExp s.data.toList)) wr))
    case first =>
      by_cases he : Cx.peek s.data.toList c = 101 ∨ Cx.peek s.data.toList c = 69
      rotate_left
      · have ho : thenR (thenR (Cx.numInt s.data.toList p) (Cx.numFrac s.data.toList)) (Cx.numExp s.data.toList) = .ok c := by rw [HC.out]; show Cx.numExp s.data.toList c = _; unfold Cx.numExp; rw [opt_out (by simpa using he), if_pos rfl]
        have HO := Lib.hid ho
        rw [decide_eq_false he]
        clear he ho
        go_wp2_with fail
        go_meet
        case rel => exact ⟨rfl, rfl, Lib.hid (NC.out.ok hbB (Mv.refl b _) HO.out hic hcl RDC.out)⟩
      have hlt : c < s.size := Cx.peek_lt (s := s.data.toList) (by rcases he with h | h <;> (rw [h]; decide))
      have ho : thenR (thenR (Cx.numInt s.data.toList p) (Cx.numFrac s.data.toList)) (Cx.numExp s.data.toList) = Cx.digits s.data.toList (Cx.opt s.data.toList [43, 45] (c + 1)) := by rw [HC.out]; show Cx.numExp s.data.toList c = _; unfold Cx.numExp; rw [opt_in (by simpa using he), if_neg (by omega)]
      have HO := Lib.hid ho
      rw [decide_eq_true he]
      have q1 := RDC.out.c1; have qf := RDC.out.fr 1
      have R4 : R2 b s ((c + 1 : Nat) : Int) m 0 0 (wc.setCell ⟨b, 1, none⟩ (.int .i64 ((c + 1 : Nat) : Int))) := RDC.out.set1 _
      have M4 : Mv b wc (wc.setCell ⟨b, 1, none⟩ (.int .i64 ((c + 1 : Nat) : Int))) := (Mv.refl b wc).set (.inl rfl) _
      clear he ho
      by_cases h1 : Cx.peek s.data.toList (c + 1) = 43 ∨ Cx.peek s.data.toList (c + 1) = 45
      · have hql : c + 2 ≤ s.size := Cx.peek_lt (s := s.data.toList) (by rcases h1 with h | h <;> (rw [h]; decide))
        have ho2 : Cx.digits s.data.toList (Cx.opt s.data.toList [43, 45] (c + 1)) = Cx.digits s.data.toList (c + 2) := by rw [opt_in (by simpa using h1)]
        have HO := Lib.hid (HO.out.trans ho2)
        clear ho2
        by_cases h43 : Cx.peek s.data.toList (c + 1) = 43
        · have p1 : (((Cx.peek s.data.toList (c + 1)).toNat : Int) == 43) = true := by rw [h43]; rfl
          clear h43 h1
          go_wp2_with (go_at_call 123; refine (next_mv s (c + 1) m 0 0 b _ ‹R2 b s (((c + 1 : Nat) : Int) : Int) m 0 0 _› hs').mono ?_; rintro e w3 ⟨rfl, k1, k2⟩; have k3 : Mv b wc w3 := Mv.trans (by assumption) k2; have q1 := k1.c1; have qf := k1.fr 1)
          have RQ := Lib.hid (show R2 b s ((c + 2 : Nat) : Int) m 0 0 (w3.setCell ⟨b, 1, none⟩ (.int .i64 ((c + 1 : Nat) + 1))) from k1.set1 _)
          have MQ := Lib.hid (show Mv b wc (w3.setCell ⟨b, 1, none⟩ (.int .i64 ((c + 1 : Nat) + 1))) from k3.set (.inl rfl) _)
          clear k1 k2 k3
          refine (row_calls s (c + 2) m b _ RQ.out hql hs').mono ?_
          rintro e w6 ⟨rfl, hm6, hr6⟩
          have M6 := Lib.hid (MQ.out.trans hm6); have R6 := Lib.hid hr6
          clear hm6 hr6
          go_wp2_with fail
          go_meet
          case rel =>
            refine ⟨rfl, rfl, Lib.hid ?_⟩
            rcases R6.out with ⟨hd, hr⟩ | ⟨hd, hr⟩
            · exact NC.out.ok hbB M6.out (HO.out.trans hd) (Nat.le_trans (show i ≤ (c + 2) by omega) Cx.skipD_le) (Cx.skipD_len (s := s.data.toList) (show (c + 2) ≤ s.data.toList.length from hql)) hr
            · exact NC.out.bad hbB M6.out (HO.out.trans hd) (show (7 : Nat) ≠ 0 by decide) (show i ≤ (c + 2) by omega) hql hr
        · have p1 : (((Cx.peek s.data.toList (c + 1)).toNat : Int) == 43) = false := u8ne (k := 43) h43
          have p2 : (((Cx.peek s.data.toList (c + 1)).toNat : Int) == 45) = true := by rw [h1.resolve_left h43]; rfl
          clear h43 h1
          go_wp2_with (go_at_call 123; refine (next_mv s (c + 1) m 0 0 b _ ‹R2 b s (((c + 1 : Nat) : Int) : Int) m 0 0 _› hs').mono ?_; rintro e w3 ⟨rfl, k1, k2⟩; have k3 : Mv b wc w3 := Mv.trans (by assumption) k2; have q1 := k1.c1; have qf := k1.fr 1)
          have RQ := Lib.hid (show R2 b s ((c + 2 : Nat) : Int) m 0 0 (w3.setCell ⟨b, 1, none⟩ (.int .i64 ((c + 1 : Nat) + 1))) from k1.set1 _)
          have MQ := Lib.hid (show Mv b wc (w3.setCell ⟨b, 1, none⟩ (.int .i64 ((c + 1 : Nat) + 1))) from k3.set (.inl rfl) _)
          clear k1 k2 k3
          refine (row_calls s (c + 2) m b _ RQ.out hql hs').mono ?_
          rintro e w6 ⟨rfl, hm6, hr6⟩
          have M6 := Lib.hid (MQ.out.trans hm6); have R6 := Lib.hid hr6
          clear hm6 hr6
          go_wp2_with fail
          go_meet
          case rel =>
            refine ⟨rfl, rfl, Lib.hid ?_⟩
            rcases R6.out with ⟨hd, hr⟩ | ⟨hd, hr⟩
            · exact NC.out.ok hbB M6.out (HO.out.trans hd) (Nat.le_trans (show i ≤ (c + 2) by omega) Cx.skipD_le) (Cx.skipD_len (s := s.data.toList) (show (c + 2) ≤ s.data.toList.length from hql)) hr
            · exact NC.out.bad hbB M6.out (HO.out.trans hd) (show (7 : Nat) ≠ 0 by decide) (show i ≤ (c + 2) by omega) hql hr
      · have hql : c + 1 ≤ s.size := hlt
        have ho2 : Cx.digits s.data.toList (Cx.opt s.data.toList [43, 45] (c + 1)) = Cx.digits s.data.toList (c + 1) := by rw [opt_out (by simpa using h1)]
        have HO := Lib.hid (HO.out.trans ho2)
        have p1 : (((Cx.peek s.data.toList (c + 1)).toNat : Int) == 43) = false := u8ne (k := 43) (fun h => h1 (.inl h))
        have p2 : (((Cx.peek s.data.toList (c + 1)).toNat : Int) == 45) = false := u8ne (k := 45) (fun h => h1 (.inr h))
        clear ho2 h1
        go_wp2_with (go_at_call 123; refine (next_mv s (c + 1) m 0 0 b _ ‹R2 b s (((c + 1 : Nat) : Int) : Int) m 0 0 _› hs').mono ?_; rintro e w3 ⟨rfl, k1, k2⟩; have k3 : Mv b wc w3 := Mv.trans (by assumption) k2; have q1 := k1.c1; have qf := k1.fr 1)
        have RQ := Lib.hid k1
        have MQ := Lib.hid k3
        clear k1 k2 k3
        refine (row_calls s (c + 1) m b _ RQ.out hql hs').mono ?_
        rintro e w6 ⟨rfl, hm6, hr6⟩
        have M6 := Lib.hid (MQ.out.trans hm6); have R6 := Lib.hid hr6
        clear hm6 hr6
        go_wp2_with fail
        go_meet
        case rel =>
          refine ⟨rfl, rfl, Lib.hid ?_⟩
          rcases R6.out with ⟨hd, hr⟩ | ⟨hd, hr⟩
          · exact NC.out.ok hbB M6.out (HO.out.trans hd) (Nat.le_trans (show i ≤ (c + 1) by omega) Cx.skipD_le) (Cx.skipD_len (s := s.data.toList) (show (c + 1) ≤ s.data.toList.length from hql)) hr
          · exact NC.out.bad hbB M6.out (HO.out.trans hd) (show (7 : Nat) ≠ 0 by decide) (show i ≤ (c + 1) by omega) hql hr
    case rest =>
    obtain ⟨rfl, rfl, ND⟩ := hcut
    clear NC RDC HC
    clear hic hcl
    clear c
    rcases ND.out.st with hst | hst
    rotate_left
    · obtain ⟨x, j, hx, hx1, hij, hjl, hrd⟩ := hst
      have hx0 : ((x.1 : Int) == 0) = false := by rw [beq_eq_false_iff_ne]; omega
      have RDX := Lib.hid hrd
      have HX := Lib.hid hx; have HX1 := Lib.hid hx1
      have q0 := hrd.c0; have q1 := hrd.c1
      obtain ⟨r0, r1, r2, r3, r4, rf⟩ := cells5 ND.out.box
      have rf0 := rf 0; have rf1 := rf 1; have rf2 := rf 2; have rf3 := rf 3; have rf4 := rf 4
      have nb : b ≠ B := by omega
      clear rf
      clear hx hx1 hrd
      go_wp2_with (go_at_call 80; refine (ok_calls s _ m _ _ b _ RDX.out).mono ?_; rintro e w' ⟨rfl, hw'⟩; rw [hx0]; subst hw')
      obtain ⟨hbx, hmv, hrr⟩ := ND.out.fin hbB (Mv.refl b _) (.string (s.extract i j)) RDX.out
      obtain ⟨z0, z1, z2, z3, z4, _⟩ := cells5 (put5_heap (a := .int .i64 3) (b := .bool false) (c := .string (s.extract i j)) (d := .slice none 0 0) (e := .slice none 0 0) hbx)
      have hZ := Lib.hid (And.intro z0 (And.intro z1 (And.intro z2 (And.intro z3 z4)))); have HMV := Lib.hid hmv; have HRR := Lib.hid hrr
      clear z0 z1 z2 z3 z4 hbx hmv hrr
      go_region
      go_wp2_with fail
      obtain ⟨z0, z1, z2, z3, z4⟩ := hZ.out
      refine bodyPost_ret (v := .agg #[.int .i64 3, .bool false, .string (s.extract i j), .slice none 0 0, .slice none 0 0]) (by simp [results, Tryz.results129, go_sem, z0, z1, z2, z3, z4]) rfl ?_
      exact RG.err (by rw [number_stages, ← HP.out, HX.out]; rfl) HMV.out.drew ⟨_, by rw [extract_list]⟩ HX1.out hjl HRR.out.drew
    obtain ⟨c, hc, hic, hcl, hrd⟩ := hst
    have RDC := Lib.hid hrd; have HC := Lib.hid hc
    have q0 := hrd.c0; have q1 := hrd.c1
    have nb : b ≠ B := by omega
    clear hrd hc
    by_cases hlong : 40 < c - i
    · have hl : (40 : Int) < (c : Int) - (i : Int) := by omega
      go_wp2_with (first
        | (go_at_call 80; refine (ok_calls s _ m _ _ b _ RDC.out).mono ?_; rintro e w' ⟨rfl, hw'⟩; subst hw')
        | (go_at_call 79; refine (fail_calls s c m 0 5 i b _ RDC.out).mono ?_; rintro e w3 ⟨rfl, k1, k2⟩; have NE : Hid (NS b B s i m w (.error (5, i)) w3) := Lib.hid (ND.out.bad hbB k2 rfl (show (5 : Nat) ≠ 0 by decide) hic hcl k1); have RDX := Lib.hid k1; clear k1 k2))
      have q0 := RDX.out.c0; have q1 := RDX.out.c1
      obtain ⟨r0, r1, r2, r3, r4, rf⟩ := cells5 NE.out.box
      have rf0 := rf 0; have rf1 := rf 1; have rf2 := rf 2; have rf3 := rf 3; have rf4 := rf 4
      have nb : b ≠ B := by omega
      clear rf
      obtain ⟨hbx, hmv, hrr⟩ := NE.out.fin hbB (Mv.refl b _) (.string (s.extract i c)) RDX.out
      obtain ⟨z0, z1, z2, z3, z4, _⟩ := cells5 (put5_heap (a := .int .i64 3) (b := .bool false) (c := .string (s.extract i c)) (d := .slice none 0 0) (e := .slice none 0 0) hbx)
      have hZ := Lib.hid (And.intro z0 (And.intro z1 (And.intro z2 (And.intro z3 z4)))); have HMV := Lib.hid hmv; have HRR := Lib.hid hrr
      clear z0 z1 z2 z3 z4 hbx hmv hrr
      go_region
      go_wp2_with fail
      obtain ⟨z0, z1, z2, z3, z4⟩ := hZ.out
      refine bodyPost_ret (v := .agg #[.int .i64 3, .bool false, .string (s.extract i c), .slice none 0 0, .slice none 0 0]) (by simp [results, Tryz.results129, go_sem, z0, z1, z2, z3, z4]) rfl ?_
      exact RG.err (x := (5, i)) (by rw [number_stages, ← HP.out, HC.out]; show (if c - i > 40 then _ else _) = _; rw [if_pos hlong]) HMV.out.drew ⟨_, by rw [extract_list]⟩ (show (5 : Nat) ≠ 0 by decide) hcl HRR.out.drew
    · have hl : ¬ (40 : Int) < (c : Int) - (i : Int) := by omega
      obtain ⟨r0, r1, r2, r3, r4, rf⟩ := cells5 ND.out.box
      have rf0 := rf 0; have rf1 := rf 1; have rf2 := rf 2; have rf3 := rf 3; have rf4 := rf 4
      clear rf
      go_wp2_with (go_at_call 80; refine (ok_calls s _ m _ _ b _ RDC.out).mono ?_; rintro e w' ⟨rfl, hw'⟩; subst hw')
      obtain ⟨hbx, hmv, hrr⟩ := ND.out.fin hbB (Mv.refl b _) (.string (s.extract i c)) RDC.out
      obtain ⟨z0, z1, z2, z3, z4, _⟩ := cells5 (put5_heap (a := .int .i64 3) (b := .bool false) (c := .string (s.extract i c)) (d := .slice none 0 0) (e := .slice none 0 0) hbx)
      have hZ := Lib.hid (And.intro z0 (And.intro z1 (And.intro z2 (And.intro z3 z4)))); have HMV := Lib.hid hmv; have HRR := Lib.hid hrr
      clear z0 z1 z2 z3 z4 hbx hmv hrr
      go_region
      go_wp2_with fail
      obtain ⟨z0, z1, z2, z3, z4⟩ := hZ.out
      refine bodyPost_ret (v := .agg #[.int .i64 3, .bool false, .string (s.extract i c), .slice none 0 0, .slice none 0 0]) (by simp [results, Tryz.results129, go_sem, z0, z1, z2, z3, z4]) rfl ?_
      exact RG.ok (a := c) (by rw [number_stages, ← HP.out, HC.out]; show (if c - i > 40 then _ else _) = _; rw [if_neg hlong]) HMV.out.drew ⟨by rw [extract_list], HRR.out.drew⟩
end Go.Proofs.YtejlddimokmgjaaGreatDoor
