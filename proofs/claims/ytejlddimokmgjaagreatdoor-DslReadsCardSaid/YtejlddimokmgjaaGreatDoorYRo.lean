/- WALKS: an object, as the document's answer reads it. -/
import Derived.Test.YtejlddimokmgjaaGreatDoorYRm
namespace Go.Proofs.YtejlddimokmgjaaGreatDoor
open Go.RowKit

set_option maxRecDepth 100000 in
set_option maxHeartbeats 2000000 in
theorem object2_calls (s : ByteArray) (i m : Nat) (b : Nat) (deep : Int) (val : Nat → Nat → Cx.Res (Cx.J × Nat × Nat)) (d : Nat) (hfine : Cx.Fine s.data.toList (d + 1) val)
    (hval : ∀ (w : World) (i' m : Nat), i < i' → R2 b s i' m 0 0 w → i' ≤ s.size → m ≤ 5000 → Calls Tryz.prog 77 #[.pointer (some ⟨b, 0, none⟩), .int .i64 deep] w (RG (val i' m) (JRet2 b s w) (JBad w) b s w))
    (w : World) (h : R2 b s (i + 1 : Nat) m 0 0 w) (hi : i < s.size) (hm : m ≤ 5000) (hs : s.size ≤ 100000) :
    Calls Tryz.prog 128 #[.pointer (some ⟨b, 0, none⟩), .int .i64 deep] w (RG (Cx.group val s.data.toList true i m) (JRet2 b s w) (JBad w) b s w) := by
  have hs' : s.size ≤ maxLen := by unfold maxLen; omega
  have hbl := h.lt
  obtain ⟨RES, hRES⟩ : ∃ RES, RES = Cx.group val s.data.toList true i m := ⟨_, rfl⟩
  rw [← hRES]
  unfold Cx.group at hRES
  have HR := Lib.hid hRES
  have HPI := Lib.hid (PJ.fresh (kind := 6) h); have HV := Lib.hid hval; have HF := Lib.hid hfine
  clear hRES h hval hfine
  go_enter Tryz.func128, Tryz.ntmps128
  go_wp2_with fail
  refine (blanks2_calls s (i + 1) m 0 0 b _ HPI.out.rd (by omega) hs').mono ?_
  rintro e w2 ⟨rfl, k1, k2⟩
  have hpi2 := HPI.out.move hbl k2 k1
  have hlp : Cx.skipB s.data.toList (i + 1) ≤ s.size := Cx.skipB_len (s := s.data.toList) (show i + 1 ≤ s.data.toList.length from hi)
  have hip := Cx.skipB_le (s := s.data.toList) (i := i + 1)
  have HR2 := HR.out
  generalize hp : Cx.skipB s.data.toList (i + 1) = p at hpi2 hlp hip HR2 ⊢
  have P2 := Lib.hid hpi2; have HRA := Lib.hid HR2
  clear hp k1 k2 hpi2 HR2 HR HPI
  go_wp2_with fail
  refine (next_mv s p m 0 0 b _ P2.out.rd hs').mono ?_
  rintro e w3 ⟨rfl, k1, k2⟩
  have P3 := Lib.hid (P2.out.move hbl k2 k1)
  clear k1 k2 P2
  by_cases hend : Cx.peek s.data.toList p = 125
  · have hr := HRA.out
    rw [if_pos (by rw [hend]; rfl)] at hr
    have HRB := Lib.hid hr
    have hplt : p < s.size := Cx.peek_lt (s := s.data.toList) (by rw [hend]; decide)
    rw [hend]
    have q1 := P3.out.rd.c1; have qf := P3.out.rd.fr 1
    have hp4 : PJ b w.heap.size 6 s w (p + 1) m 0 0 [] [] (.slice none 0 0) (.slice none 0 0) [] (w3.setCell ⟨b, 1, none⟩ (.int .i64 ((p : Int) + 1))) := P3.out.move hbl ((Mv.refl b w3).set (.inl rfl) _) (P3.out.rd.set1 _)
    have P4 := Lib.hid hp4
    clear hp4
    clear hend hr HRA P3
    obtain ⟨d0, d1, d2, d3, d4, _⟩ := cells5 P4.out.box
    obtain ⟨r0, r1, r2, r3, r4, rf⟩ := cells5 P4.out.res
    have rf0 := rf 0; have rf1 := rf 1; have rf2 := rf 2; have rf3 := rf 3; have rf4 := rf 4
    obtain ⟨z0, z1, z2, z3, z4, _⟩ := cells5 (put5_heap (a := .int .i64 6) (b := .bool false) (c := .string ⟨#[]⟩) (d := .slice none 0 0) (e := .slice none 0 0) P4.out.res)
    have FIN := Lib.hid (P4.out.fin hbl); have Z := Lib.hid (And.intro z0 (And.intro z1 (And.intro z2 (And.intro z3 z4))))
    clear z0 z1 z2 z3 z4 rf
    go_wp2_with fail
    obtain ⟨z0, z1, z2, z3, z4⟩ := Z.out
    refine bodyPost_ret (v := .agg #[.int .i64 6, .bool false, .string ⟨#[]⟩, .slice none 0 0, .slice none 0 0]) (by simp [results, Tryz.results128, go_sem, z0, z1, z2, z3, z4]) rfl ?_
    obtain ⟨f1, f2, f3⟩ := FIN.out
    exact RG.ok HRB.out f3 ⟨_, rfl, f1, f2⟩
  · have n125 : (((Cx.peek s.data.toList p).toNat : Int) == 125) = false := u8ne (k := 125) hend
    have hr := HRA.out
    rw [if_neg (by simpa using hend)] at hr
    have HRB := Lib.hid hr
    clear hend hr HRA
    go_wp2_with fail
    clear n125
    go_loopg [] (s.size + 1) (fun q wr => ∃ (j m' : Nat) (ns : List (List UInt8)) (ks : List Cx.J) (sn sk : Value) (css : List (List Value)), 0 < q ∧ s.size < j + q ∧ i < j ∧ j ≤ s.size ∧ ks.length ≤ j ∧ ns.length = ks.length ∧ m' ≤ 5000 ∧ Hid (RES = Cx.parts val s.data.toList true q j m' ns ks) ∧ Hid (PJ b w.heap.size 6 s w j m' 0 0 ns ks sn sk css wr))
    case atStart => exact ⟨p, m, [], [], _, _, [], by omega, by omega, by omega, hlp, by simp, rfl, hm, HRB.out, P3.out⟩
    case round =>
      obtain ⟨j, m', ns, ks, sn, sk, css, hq0, hq, hij, hj, hkl, hnk, hm', HR, P⟩ := hrel
      obtain ⟨q, rfl⟩ : ∃ q, gk = q + 1 := ⟨gk - 1, by omega⟩
      have hr := HR.out
      unfold Cx.parts at hr
      simp only [if_true] at hr
      have HR2 := Lib.hid hr
      have hnl : ns.length ≤ 100000 := by omega
      have HNK := Lib.hid hnk
      clear HRB P3 hq0 HR hr hnk
      obtain ⟨sna, snn, snc, rfl⟩ := own_shape P.out.own1
      obtain ⟨ska, skn, skc, rfl⟩ := own_shape P.out.own2
      go_wp2_with fail
      refine (ok_calls s _ _ _ _ b _ P.out.rd).mono ?_
      rintro e w' ⟨rfl, hw'⟩
      have hw' := hw'.symm
      subst hw'
      go_wp2_with fail
      refine (blanks2_calls s j m' 0 0 b _ P.out.rd hj hs').mono ?_
      rintro e w4 ⟨rfl, k1, k2⟩
      have hpi2 := P.out.move hbl k2 k1
      have hlp2 : Cx.skipB s.data.toList j ≤ s.size := Cx.skipB_len (s := s.data.toList) (show j ≤ s.data.toList.length from hj)
      have hip2 := Cx.skipB_le (s := s.data.toList) (i := j)
      obtain ⟨p2, hp2⟩ : ∃ p2, p2 = Cx.skipB s.data.toList j := ⟨_, rfl⟩
      rw [← hp2] at hpi2 hlp2 hip2
      have P2 := Lib.hid hpi2; have HP2 := Lib.hid hp2
      clear k1 k2 hpi2 hp2 P
      have q1 := P2.out.rd.c1
      go_wp2_with fail
      refine (next_mv s p2 m' 0 0 b _ P2.out.rd hs').mono ?_
      rintro e w5 ⟨rfl, k1, k2⟩
      have P3 := Lib.hid (P2.out.move hbl k2 k1)
      clear k1 k2 P2 q1
      by_cases h34 : Cx.peek s.data.toList p2 = 34
      rotate_left
      · have n34 : (((Cx.peek s.data.toList p2).toNat : Int) == 34) = false := u8ne (k := 34) h34
        have n34' : (((Cx.peek s.data.toList p2).toNat : Int) != 34) = true := by rw [bne, n34]; rfl
        have hnm : Cx.name s.data.toList ns j = .error (7, p2) := by unfold Cx.name Cx.text; rw [← HP2.out, if_neg h34]
        have hr := HR2.out
        rw [hnm] at hr
        simp only at hr
        have HE := Lib.hid hr
        have q1 := P3.out.rd.c1
        clear h34 hnm hr HR2
        go_wp2_with fail
        refine (fail_calls s p2 m' 0 7 p2 b _ P3.out.rd).mono ?_
        rintro e w6 ⟨rfl, k1, k2⟩
        have P6 := Lib.hid (P3.out.move hbl k2 k1)
        clear k1 k2 q1
        obtain ⟨d0, d1, d2, d3, d4, _⟩ := cells5 P6.out.box
        obtain ⟨r0, r1, r2, r3, r4, rf⟩ := cells5 P6.out.res
        have rf0 := rf 0; have rf1 := rf 1; have rf2 := rf 2; have rf3 := rf 3; have rf4 := rf 4
        obtain ⟨z0, z1, z2, z3, z4, _⟩ := cells5 (put5_heap (a := .int .i64 6) (b := .bool false) (c := .string ⟨#[]⟩) (d := .slice sna snn snc) (e := .slice ska skn skc) P6.out.res)
        have FIN := Lib.hid (P6.out.fin hbl); have Z := Lib.hid (And.intro z0 (And.intro z1 (And.intro z2 (And.intro z3 z4))))
        clear z0 z1 z2 z3 z4 rf
        go_wp2_with fail
        obtain ⟨z0, z1, z2, z3, z4⟩ := Z.out
        refine bodyPost_ret (v := .agg #[.int .i64 6, .bool false, .string ⟨#[]⟩, .slice sna snn snc, .slice ska skn skc]) (by simp [results, Tryz.results128, go_sem, z0, z1, z2, z3, z4]) rfl ?_
        obtain ⟨f1, f2, f3⟩ := FIN.out
        exact RG.err HE.out f3 ⟨_, _, rfl, f1⟩ (show (7 : Nat) ≠ 0 by decide) hlp2 f2
      rw [h34]
      have H34 := Lib.hid h34
      clear h34
      go_wp2_with fail
      refine (text2_calls s p2 m' b _ P3.out.rd H34.out hs).mono ?_
      intro e w6 hgv
      cases htx : Cx.text s.data.toList p2 with
      | error x =>
        obtain ⟨k2, rfl, hx1, j2, m2, hj2, k1⟩ := hgv.of_err htx
        have hnm : Cx.name s.data.toList ns j = .error x := by unfold Cx.name; rw [← HP2.out, htx]
        have hr := HR2.out
        rw [hnm] at hr
        simp only at hr
        have HE := Lib.hid hr
        have P6 := Lib.hid (P3.out.move hbl k2 k1)
        have hx0 : ((x.1 : Int) == 0) = false := by rw [beq_eq_false_iff_ne]; omega
        have hxi : (x.1 : Int) ≠ 0 := by omega
        have HX1 := Lib.hid hx1; have HXI := Lib.hid hxi
        have b3 := (cells5 P6.out.box).2.2.2.1
        clear hnm hr HR2 k1 k2 hgv htx hx1 hxi P3
        go_wp2_with fail
        refine (show Calls Tryz.prog 163 #[.slice sna snn snc, .string ⟨#[]⟩] _ _ from has2_calls _ ns [] (fun _ => True) _ (Row.of_own P6.out.own1 fun _ _ => trivial) (by omega)).mono ?_
        rintro e w' ⟨rfl, hw'⟩
        have hw' := hw'.symm
        subst hw'
        cases decide (([] : List UInt8) ∈ ns) with
        | true =>
          go_wp2_with fail
          refine (fail_no s _ _ _ _ _ _ b _ P6.out.rd HXI.out).mono ?_
          rintro e w' ⟨rfl, hw'⟩
          have hw' := hw'.symm
          subst hw'
          go_wp2_with fail
          refine (blanks2_calls s _ _ _ _ b _ P6.out.rd hj2 hs').mono ?_
          rintro e w7 ⟨rfl, k1, k2⟩
          have P7 := Lib.hid (P6.out.move hbl k2 k1)
          clear k1 k2
          go_wp2_with fail
          refine (word2_no s _ _ _ _ b ⟨#[58]⟩ _ P7.out.rd HXI.out (by decide)).mono ?_
          rintro e w' ⟨rfl, hw'⟩
          have hw' := hw'.symm
          subst hw'
          go_wp2_with fail
          refine (ok_calls s _ _ _ _ b _ P7.out.rd).mono ?_
          rintro e w' ⟨rfl, hw'⟩
          have hw' := hw'.symm
          subst hw'
          rw [hx0]
          obtain ⟨d0, d1, d2, d3, d4, _⟩ := cells5 P7.out.box
          obtain ⟨r0, r1, r2, r3, r4, rf⟩ := cells5 P7.out.res
          have rf0 := rf 0; have rf1 := rf 1; have rf2 := rf 2; have rf3 := rf 3; have rf4 := rf 4
          obtain ⟨z0, z1, z2, z3, z4, _⟩ := cells5 (put5_heap (a := .int .i64 6) (b := .bool false) (c := .string ⟨#[]⟩) (d := .slice sna snn snc) (e := .slice ska skn skc) P7.out.res)
          have FIN := Lib.hid (P7.out.fin hbl); have Z := Lib.hid (And.intro z0 (And.intro z1 (And.intro z2 (And.intro z3 z4))))
          clear z0 z1 z2 z3 z4 rf
          go_wp2_with fail
          obtain ⟨z0, z1, z2, z3, z4⟩ := Z.out
          refine bodyPost_ret (v := .agg #[.int .i64 6, .bool false, .string ⟨#[]⟩, .slice sna snn snc, .slice ska skn skc]) (by simp [results, Tryz.results128, go_sem, z0, z1, z2, z3, z4]) rfl ?_
          obtain ⟨f1, f2, f3⟩ := FIN.out
          exact RG.err HE.out f3 ⟨_, _, rfl, f1⟩ HX1.out (Cx.skipB_len (s := s.data.toList) (show j2 ≤ s.data.toList.length from hj2)) f2
        | false =>
          go_wp2_with fail
          refine (blanks2_calls s _ _ _ _ b _ P6.out.rd hj2 hs').mono ?_
          rintro e w7 ⟨rfl, k1, k2⟩
          have P7 := Lib.hid (P6.out.move hbl k2 k1)
          clear k1 k2
          go_wp2_with fail
          refine (word2_no s _ _ _ _ b ⟨#[58]⟩ _ P7.out.rd HXI.out (by decide)).mono ?_
          rintro e w' ⟨rfl, hw'⟩
          have hw' := hw'.symm
          subst hw'
          go_wp2_with fail
          refine (ok_calls s _ _ _ _ b _ P7.out.rd).mono ?_
          rintro e w' ⟨rfl, hw'⟩
          have hw' := hw'.symm
          subst hw'
          rw [hx0]
          obtain ⟨d0, d1, d2, d3, d4, _⟩ := cells5 P7.out.box
          obtain ⟨r0, r1, r2, r3, r4, rf⟩ := cells5 P7.out.res
          have rf0 := rf 0; have rf1 := rf 1; have rf2 := rf 2; have rf3 := rf 3; have rf4 := rf 4
          obtain ⟨z0, z1, z2, z3, z4, _⟩ := cells5 (put5_heap (a := .int .i64 6) (b := .bool false) (c := .string ⟨#[]⟩) (d := .slice sna snn snc) (e := .slice ska skn skc) P7.out.res)
          have FIN := Lib.hid (P7.out.fin hbl); have Z := Lib.hid (And.intro z0 (And.intro z1 (And.intro z2 (And.intro z3 z4))))
          clear z0 z1 z2 z3 z4 rf
          go_wp2_with fail
          obtain ⟨z0, z1, z2, z3, z4⟩ := Z.out
          refine bodyPost_ret (v := .agg #[.int .i64 6, .bool false, .string ⟨#[]⟩, .slice sna snn snc, .slice ska skn skc]) (by simp [results, Tryz.results128, go_sem, z0, z1, z2, z3, z4]) rfl ?_
          obtain ⟨f1, f2, f3⟩ := FIN.out
          exact RG.err HE.out f3 ⟨_, _, rfl, f1⟩ HX1.out (Cx.skipB_len (s := s.data.toList) (show j2 ≤ s.data.toList.length from hj2)) f2
      | ok a =>
        obtain ⟨t, j1⟩ := a
        obtain ⟨⟨rfl, k1⟩, k2⟩ := hgv.of_ok htx
        have P6 := Lib.hid (P3.out.move hbl k2 k1)
        have htok := Cx.text_ok htx
        have hj1 : j1 ≤ s.size := htok.2.1
        have hj1b : p2 < j1 := by have := htok.1; omega
        have HTX := Lib.hid htx
        have b3 := (cells5 P6.out.box).2.2.2.1
        clear k1 k2 hgv htx htok P3
        go_wp2_with fail
        refine (has2_calls _ ns t (fun _ => True) _ (Row.of_own P6.out.own1 fun _ _ => trivial) (by omega)).mono ?_
        rintro e w' ⟨rfl, hw'⟩
        have hw' := hw'.symm
        subst hw'
        by_cases hmem : t ∈ ns
        · rw [decide_eq_true hmem]
          have hnm : Cx.name s.data.toList ns j = .error (11, p2) := by unfold Cx.name; rw [← HP2.out, HTX.out]; simp only; rw [if_pos hmem]
          have hr := HR2.out
          rw [hnm] at hr
          simp only at hr
          have HE := Lib.hid hr
          clear hmem hnm hr HR2
          go_wp2_with fail
          refine (fail_calls s _ _ _ 11 p2 b _ P6.out.rd).mono ?_
          rintro e w7 ⟨rfl, k1, k2⟩
          have P8 := Lib.hid (P6.out.move hbl k2 k1)
          have hx0 : ((11 : Int) == 0) = false := by decide
          clear k1 k2 b3
          go_wp2_with fail
          refine (blanks2_calls s _ _ _ _ b _ P8.out.rd hj1 hs').mono ?_
          rintro e w7 ⟨rfl, k1, k2⟩
          have P7 := Lib.hid (P8.out.move hbl k2 k1)
          clear k1 k2
          go_wp2_with fail
          refine (word2_no s _ _ _ _ b ⟨#[58]⟩ _ P7.out.rd (by decide) (by decide)).mono ?_
          rintro e w' ⟨rfl, hw'⟩
          have hw' := hw'.symm
          subst hw'
          go_wp2_with fail
          refine (ok_calls s _ _ _ _ b _ P7.out.rd).mono ?_
          rintro e w' ⟨rfl, hw'⟩
          have hw' := hw'.symm
          subst hw'
          rw [hx0]
          obtain ⟨d0, d1, d2, d3, d4, _⟩ := cells5 P7.out.box
          obtain ⟨r0, r1, r2, r3, r4, rf⟩ := cells5 P7.out.res
          have rf0 := rf 0; have rf1 := rf 1; have rf2 := rf 2; have rf3 := rf 3; have rf4 := rf 4
          obtain ⟨z0, z1, z2, z3, z4, _⟩ := cells5 (put5_heap (a := .int .i64 6) (b := .bool false) (c := .string ⟨#[]⟩) (d := .slice sna snn snc) (e := .slice ska skn skc) P7.out.res)
          have FIN := Lib.hid (P7.out.fin hbl); have Z := Lib.hid (And.intro z0 (And.intro z1 (And.intro z2 (And.intro z3 z4))))
          clear z0 z1 z2 z3 z4 rf
          go_wp2_with fail
          obtain ⟨z0, z1, z2, z3, z4⟩ := Z.out
          refine bodyPost_ret (v := .agg #[.int .i64 6, .bool false, .string ⟨#[]⟩, .slice sna snn snc, .slice ska skn skc]) (by simp [results, Tryz.results128, go_sem, z0, z1, z2, z3, z4]) rfl ?_
          obtain ⟨f1, f2, f3⟩ := FIN.out
          exact RG.err HE.out f3 ⟨_, _, rfl, f1⟩ (show (11 : Nat) ≠ 0 by decide) (Cx.skipB_len (s := s.data.toList) (show j1 ≤ s.data.toList.length from hj1)) f2
        rw [decide_eq_false hmem]
        have HMEM := Lib.hid hmem
        clear hmem
        go_wp2_with fail
        refine (blanks2_calls s j1 m' 0 0 b _ P6.out.rd hj1 hs').mono ?_
        rintro e w7 ⟨rfl, k1, k2⟩
        have hpi2 := P6.out.move hbl k2 k1
        have hlp3 : Cx.skipB s.data.toList j1 ≤ s.size := Cx.skipB_len (s := s.data.toList) (show j1 ≤ s.data.toList.length from hj1)
        have hip3 := Cx.skipB_le (s := s.data.toList) (i := j1)
        have P7 := Lib.hid hpi2
        clear k1 k2 hpi2 P6 b3
        go_wp2_with fail
        refine (word2_calls s _ m' b ⟨#[58]⟩ _ P7.out.rd hlp3 hs' (by decide) (by decide)).mono ?_
        intro e w8 hgv
        cases hwd : Cx.word s.data.toList [58] (Cx.skipB s.data.toList j1) with
        | error x =>
          obtain ⟨k2, rfl, hx1, j2, m2, hj2, k1⟩ := hgv.of_err hwd
          have hnm : Cx.name s.data.toList ns j = .error x := by unfold Cx.name; rw [← HP2.out, HTX.out]; simp only; rw [if_neg HMEM.out, hwd]
          have hr := HR2.out
          rw [hnm] at hr
          simp only at hr
          have HE := Lib.hid hr
          have P8 := Lib.hid (P7.out.move hbl k2 k1)
          have hx0 : ((x.1 : Int) == 0) = false := by rw [beq_eq_false_iff_ne]; omega
          have HX1 := Lib.hid hx1
          clear hnm hr HR2 k1 k2 hgv hwd hx1 P7
          go_wp2_with fail
          refine (ok_calls s _ _ _ _ b _ P8.out.rd).mono ?_
          rintro e w' ⟨rfl, hw'⟩
          have hw' := hw'.symm
          subst hw'
          rw [hx0]
          obtain ⟨d0, d1, d2, d3, d4, _⟩ := cells5 P8.out.box
          obtain ⟨r0, r1, r2, r3, r4, rf⟩ := cells5 P8.out.res
          have rf0 := rf 0; have rf1 := rf 1; have rf2 := rf 2; have rf3 := rf 3; have rf4 := rf 4
          obtain ⟨z0, z1, z2, z3, z4, _⟩ := cells5 (put5_heap (a := .int .i64 6) (b := .bool false) (c := .string ⟨#[]⟩) (d := .slice sna snn snc) (e := .slice ska skn skc) P8.out.res)
          have FIN := Lib.hid (P8.out.fin hbl); have Z := Lib.hid (And.intro z0 (And.intro z1 (And.intro z2 (And.intro z3 z4))))
          clear z0 z1 z2 z3 z4 rf
          go_wp2_with fail
          obtain ⟨z0, z1, z2, z3, z4⟩ := Z.out
          refine bodyPost_ret (v := .agg #[.int .i64 6, .bool false, .string ⟨#[]⟩, .slice sna snn snc, .slice ska skn skc]) (by simp [results, Tryz.results128, go_sem, z0, z1, z2, z3, z4]) rfl ?_
          obtain ⟨f1, f2, f3⟩ := FIN.out
          exact RG.err HE.out f3 ⟨_, _, rfl, f1⟩ HX1.out hj2 f2
        | ok j3 =>
          obtain ⟨⟨rfl, k1⟩, k2⟩ := hgv.of_ok hwd
          have hnm : Cx.name s.data.toList ns j = .ok (t, j3) := by unfold Cx.name; rw [← HP2.out, HTX.out]; simp only; rw [if_neg HMEM.out, hwd]
          have hwo := Cx.word_ok (s := s.data.toList) (w := [58]) (by decide) (show Cx.skipB s.data.toList j1 ≤ s.data.toList.length from hlp3) hwd
          have hj3 : j3 ≤ s.size := hwo.2
          have hj3b : j < j3 := by have := hwo.1; simp at this; omega
          have hr := HR2.out
          rw [hnm] at hr
          simp only at hr
          have HR3 := Lib.hid hr
          have P := Lib.hid (P7.out.move hbl k2 k1)
          clear hnm hr HR2 k1 k2 hgv hwd hwo P7 HTX HMEM H34 HP2
          go_wp2_with fail
          refine (ok_calls s _ _ _ _ b _ P.out.rd).mono ?_
          rintro e w' ⟨rfl, hw'⟩
          have hw' := hw'.symm
          subst hw'
          go_upto_region 20 with fail
          go_cut [9] (fun kp wk => ∃ (K : Nat) (x0 : Int) (x1 : Bool) (x2 : ByteArray) (x3 : Option Addr) (x4 x5 : Nat) (x6 : Option Addr) (x7 x8 : Nat) (k : Cx.J) (j2 : Nat) (m2 y qq : Int), kp = .pointer (some ⟨K, 0, none⟩) ∧ Hid (KBox b s w8 (val j3 m') K x0 x1 x2 x3 x4 x5 x6 x7 x8 k j2 m2 y qq wk))
          case first =>
            go_wp2_with fail
            refine (HV.out _ j3 m' (by omega) P.out.rd hj3 hm').mono ?_
            intro e w9 hgv
            obtain ⟨k, cs, j2, m2, y, qq, rfl, kj, km, kr, hcase⟩ := hgv.both
            obtain ⟨c0, c1, c2, c3, c4, rfl⟩ := five kj.length
            obtain ⟨x0, x1, x2, x3, x4, x5, x6, x7, x8, rfl, rfl, rfl, rfl, rfl⟩ := five_shape kj
            have hKB : KBox b s w8 (val j3 m') w9.heap.size x0 x1 x2 x3 x4 x5 x6 x7 x8 k j2 m2 y qq (w9.alloc (.cells #[.int .i64 x0, .bool x1, .string x2, .slice x3 x4 x5, .slice x6 x7 x8] 48)) :=
              ⟨km.alloc _, kr.alloc _, heap_alloc_new w9 _, JAt.kept (by simp) (fun g hg hl => ⟨Below.heap_alloc _ _ _ hl, hg⟩) _ _ kj, hcase, km.size⟩
            have KB := Lib.hid hKB
            clear hKB kj km kr hcase hgv
            go_wp2_with fail
            go_meet
            case rel => exact ⟨_, x0, x1, x2, x3, x4, x5, x6, x7, x8, k, j2, m2, y, qq, rfl, KB⟩
          case rest =>
          obtain ⟨K, x0, x1, x2, x3, x4, x5, x6, x7, x8, k, j2, m2, y, qq, rfl, KB⟩ := hcut
          obtain ⟨wk, hwk⟩ : ∃ wk, wk = wc := ⟨_, rfl⟩
          rw [← hwk] at KB ⊢
          clear hwk
          have hpm := P.out.move hbl KB.out.mv KB.out.rd
          have hsw := P.out.size
          have hsk := KB.out.mv.size
          have b3 := (cells5 hpm.box).2.2.2.1
          obtain ⟨i1, hi1, hy0, hy1, hy2⟩ := info_parts infoS
          have P5 := Lib.hid hpm
          have OWN1 := Lib.hid (hpm.own1.alloc (.cells #[.string ⟨t.toArray⟩] 9)); have SZ1 := Lib.hid (show w.heap.size + 2 ≤ (wk.alloc (.cells #[.string ⟨t.toArray⟩] 9)).heap.size by simp; omega)
          have NEWS1 := Lib.hid (World.news_of_block (cs := #[.string ⟨t.toArray⟩]) (t := 9) (fr := (0, 0)) (heap_alloc_new wk (.cells #[.string ⟨t.toArray⟩] 9)))
          have NX1 := Lib.hid (fun w5 hg => hpm.next1 (w5 := w5) (o := (.cells #[.string ⟨t.toArray⟩] 9)) hg)
          have JO1 : Hid (∀ u ∈ ([.string ⟨t.toArray⟩] : List Value), u.oneCell' = true) := Lib.hid (by intro u hu; simp only [List.mem_singleton] at hu; subst hu; rfl)
          clear hpm
          go_upto_region 22 with (at_builtin; refine wpList_append_lies _ rfl _ _ 45 rfl (w.heap.size + 2) 9 i1 _ 1 16 Tryz.underlying45 hi1 hy0 hy1 hy2 rfl (by decide) (.slice sna snn snc) ns.length (ns.map strV) rfl OWN1.out ⟨wk.heap.size, 0, none⟩ 1 1 [.string ⟨t.toArray⟩] rfl rfl NEWS1.out JO1.out (by decide) (by unfold maxLen; omega) (by omega) SZ1.out (wk.heap.size + 1) (by simp) ?_; intro gn capn w9 hown9 hgrow9 hat9 hlt9; have d3 := NX1.out w9 hgrow9; have d3a := d3.1; have d3b := d3.2)
          have hp6 := P5.out.addName (t := t) hbl ((Mv.refl b wk).alloc (.cells #[.string ⟨t.toArray⟩] 9)) (P5.out.rd.alloc (.cells #[.string ⟨t.toArray⟩] 9)) hown9 hgrow9 (by simpa using hat9)
          obtain ⟨w6', hw6⟩ : ∃ w6', w6' = w9.setCell ⟨w.heap.size + 1, 3, none⟩ (.slice (some ⟨gn, 0, none⟩) (ns.length + 1) capn) := ⟨_, rfl⟩
          rw [← hw6] at hp6 ⊢
          have hl1 := P.out.own1.lt; have hl2 := P.out.own2.lt
          have hkeep : ∀ g, w8.heap.size ≤ g → g < wk.heap.size → w6'.heap[g]? = wk.heap[g]? := fun g h1 h2 => by
            rw [hw6, Below.heap_setCell _ _ _ _ (by show g ≠ w.heap.size + 1; omega), hgrow9.block g (by simp; omega) (fun e => by have := hl1 g e.symm; omega), Below.heap_alloc _ _ _ h2]
          have hs6 : wk.heap.size ≤ w6'.heap.size := by rw [hw6]; have := hgrow9.size; simp [World.setCell] at this ⊢; omega
          have hbox6 := (hkeep K KB.out.base (heap_lt KB.out.box)).trans KB.out.box
          have hjat6 : JAt w6' (fun g => w.heap.size + 2 ≤ g ∧ some g ≠ (Value.ownBlock (.slice (some ⟨gn, 0, none⟩) (ns.length + 1) capn)) ∧ some g ≠ (Value.ownBlock (.slice ska skn skc))) k [.int .i64 x0, .bool x1, .string x2, .slice x3 x4 x5, .slice x6 x7 x8] :=
            JAt.kept hs6 (fun g hg hl => ⟨hkeep g hg hl, by omega, by
              simp only [Value.ownBlock, ne_eq, Option.some.injEq]
              rintro rfl
              rcases hat9 with e | e
              · have := hl1 _ e; omega
              · omega, fun e => by have := hl2 g e.symm; omega⟩) _ _ KB.out.jat
          have P6 := Lib.hid hp6
          have b4 := (cells5 hp6.box).2.2.2.2.1
          obtain ⟨e0, e1, e2, e3, e4, _⟩ := cells5 hbox6
          obtain ⟨i0, hi0, hz0, hz1, hz2⟩ := info_parts infoJ
          have OWN := Lib.hid (hp6.own2.alloc (.cells #[.int .i64 x0, .bool x1, .string x2, .slice x3 x4 x5, .slice x6 x7 x8] 48)); have JO := Lib.hid hjat6.one; have SZ3 := Lib.hid (show w.heap.size + 2 ≤ (w6'.alloc (.cells #[.int .i64 x0, .bool x1, .string x2, .slice x3 x4 x5, .slice x6 x7 x8] 48)).heap.size by simp; omega)
          have NEWS := Lib.hid (World.news_of_block (cs := #[.int .i64 x0, .bool x1, .string x2, .slice x3 x4 x5, .slice x6 x7 x8]) (t := 48) (fr := (0, 0)) (heap_alloc_new w6' (.cells #[.int .i64 x0, .bool x1, .string x2, .slice x3 x4 x5, .slice x6 x7 x8] 48)))
          have NX := Lib.hid (fun w5 hg => hp6.next (w5 := w5) (o := (.cells #[.int .i64 x0, .bool x1, .string x2, .slice x3 x4 x5, .slice x6 x7 x8] 48)) hg)
          have HK4 := Lib.hid (show JAt (w6'.alloc (.cells #[.int .i64 x0, .bool x1, .string x2, .slice x3 x4 x5, .slice x6 x7 x8] 48)) (fun g => w.heap.size + 2 ≤ g ∧ some g ≠ (Value.ownBlock (.slice (some ⟨gn, 0, none⟩) (ns.length + 1) capn)) ∧ some g ≠ (Value.ownBlock (.slice ska skn skc))) k [.int .i64 x0, .bool x1, .string x2, .slice x3 x4 x5, .slice x6 x7 x8] from JAt.kept (by simp) (fun g hg hl => ⟨Below.heap_alloc _ _ _ hl, hg⟩) _ _ hjat6)
          have HCS := Lib.hid KB.out.cs
          clear hp6 hw6 hkeep hs6 hbox6 hjat6 hl1 hl2 hown9 hgrow9 hat9 hlt9 d3 d3a d3b hi1 hy0 hy1 hy2 OWN1 SZ1 NEWS1 NX1 JO1 P5 b3
          go_wp2_with (at_builtin; refine wpList_append_lies _ rfl _ _ 46 rfl (w.heap.size + 2) 48 i0 _ 5 80 Tryz.underlying46 hi0 hz0 hz1 hz2 rfl (by decide) (.slice ska skn skc) ks.length css.flatten rfl OWN.out ⟨w6'.heap.size, 0, none⟩ 1 1 [.int .i64 x0, .bool x1, .string x2, .slice x3 x4 x5, .slice x6 x7 x8] rfl rfl NEWS.out JO.out (by decide) (by unfold maxLen; omega) (by omega) SZ3.out (w6'.heap.size + 1) (by simp) ?_; intro gk capk w5 hown5 hgrow5 hat5 hlt5; have d4 := NX.out w5 hgrow5; have d4a := d4.1; have d4b := d4.2)
          have P7 := Lib.hid (P6.out.addKid2 hbl ((Mv.refl b w6').alloc (.cells #[.int .i64 x0, .bool x1, .string x2, .slice x3 x4 x5, .slice x6 x7 x8] 48)) (P6.out.rd.alloc (.cells #[.int .i64 x0, .bool x1, .string x2, .slice x3 x4 x5, .slice x6 x7 x8] 48)) HK4.out hown5 hgrow5 (by simpa using hat5))
          clear hown5 hgrow5 hat5 hlt5 d4 d4a d4b OWN JO SZ3 NX HK4 e0 e1 e2 e3 e4 b4 hi0 hz0 hz1 hz2 NEWS P6
          go_wp2_with fail
          rcases HCS.out with ⟨hy0, hqq, n2, hm2, hv⟩ | ⟨hy1, hj2l, x, hv, hyx, hqx⟩
          rotate_left
          · have hr := HR3.out
            rw [hv] at hr
            simp only at hr
            subst hyx hqx
            have HE := Lib.hid hr; have HX1 : Hid (x.1 ≠ 0) := Lib.hid (by omega)
            refine (show Calls Tryz.prog 162 #[.pointer (some ⟨b, 0, none⟩), .int .u8 125] _ _ from more_no s j2 m2 x.1 x.2 b 125 _ P7.out.rd hy1 hj2l hs').mono ?_
            rintro e w9 ⟨rfl, k1, k2⟩
            have P8 := Lib.hid (P7.out.move hbl k2 k1)
            have hpl : Cx.skipB s.data.toList j2 ≤ s.size := Cx.skipB_len (s := s.data.toList) hj2l
            clear hr hv hy1 k1 k2 P7 P KB HCS
            obtain ⟨d0, d1, d2, d3, d4, _⟩ := cells5 P8.out.box
            obtain ⟨r0, r1, r2, r3, r4, rf⟩ := cells5 P8.out.res
            have rf0 := rf 0; have rf1 := rf 1; have rf2 := rf 2; have rf3 := rf 3; have rf4 := rf 4
            obtain ⟨z0, z1, z2, z3, z4, _⟩ := cells5 (put5_heap (a := .int .i64 6) (b := .bool false) (c := .string ⟨#[]⟩) (d := .slice (some ⟨gn, 0, none⟩) (ns.length + 1) capn) (e := .slice (some ⟨gk, 0, none⟩) (ks.length + 1) capk) P8.out.res)
            have FIN := Lib.hid (P8.out.fin hbl); have Z := Lib.hid (And.intro z0 (And.intro z1 (And.intro z2 (And.intro z3 z4))))
            clear z0 z1 z2 z3 z4 rf
            go_wp2_with fail
            obtain ⟨z0, z1, z2, z3, z4⟩ := Z.out
            refine bodyPost_ret (v := .agg #[.int .i64 6, .bool false, .string ⟨#[]⟩, .slice (some ⟨gn, 0, none⟩) (ns.length + 1) capn, .slice (some ⟨gk, 0, none⟩) (ks.length + 1) capk]) (by simp [results, Tryz.results128, go_sem, z0, z1, z2, z3, z4]) rfl ?_
            obtain ⟨f1, f2, f3⟩ := FIN.out
            exact RG.err (x := x) HE.out f3 ⟨_, _, rfl, f1⟩ HX1.out hpl f2
          subst hy0 hqq hm2
          have hfo := HF.out.ok j3 m' k j2 n2 hj3 hm' hv
          have hj2 : j2 ≤ s.size := hfo.2.1
          have hjj : j3 < j2 := hfo.1
          have hm2' : n2 ≤ 5000 := hfo.2.2.2.1
          have hr := HR3.out
          rw [hv] at hr
          simp only at hr
          have hlp4 : Cx.skipB s.data.toList j2 ≤ s.size := Cx.skipB_len (s := s.data.toList) hj2
          have hjp4 := Cx.skipB_le (s := s.data.toList) (i := j2)
          have HRC := Lib.hid hr
          clear hr hv hfo HR3 HCS P KB
          by_cases h44 : Cx.peek s.data.toList (Cx.skipB s.data.toList j2) = 44
          · have hr := HRC.out
            rw [if_pos h44] at hr
            have HRD := Lib.hid hr
            have hlt2 : Cx.skipB s.data.toList j2 < s.size := Cx.peek_lt (s := s.data.toList) (by rw [h44]; decide)
            refine (show Calls Tryz.prog 162 #[.pointer (some ⟨b, 0, none⟩), .int .u8 125] _ _ from more_comma s j2 n2 b 125 _ P7.out.rd hj2 hs' h44).mono ?_
            rintro e w9 ⟨rfl, k1, k2⟩
            have P8 := Lib.hid (P7.out.move hbl k2 k1)
            clear hr h44 k1 k2 P7 HRC
            go_wp2_with fail
            go_roundg q
            case measure => omega
            case rel => exact ⟨Cx.skipB s.data.toList j2 + 1, n2, ns ++ [t], ks ++ [k], _, _, _, by omega, by omega, by omega, hlt2, by rw [List.length_append]; simp; omega, by rw [List.length_append, List.length_append, HNK.out]; rfl, hm2', HRD, P8⟩
          have hr := HRC.out
          rw [if_neg h44] at hr
          by_cases h93 : Cx.peek s.data.toList (Cx.skipB s.data.toList j2) = 125
          · have hw : Cx.word s.data.toList [125] (Cx.skipB s.data.toList j2) = .ok (Cx.skipB s.data.toList j2 + 1) := by unfold Cx.word; rw [if_pos h93]; rfl
            rw [hw] at hr
            simp only at hr
            have HRD := Lib.hid hr
            refine (show Calls Tryz.prog 162 #[.pointer (some ⟨b, 0, none⟩), .int .u8 125] _ _ from more_end s j2 n2 b 125 _ P7.out.rd hj2 hs' h93 (by decide) (by decide)).mono ?_
            rintro e w9 ⟨rfl, k1, k2⟩
            have P8 := Lib.hid (P7.out.move hbl k2 k1)
            clear hr hw h44 h93 k1 k2 P7 HRC
            obtain ⟨d0, d1, d2, d3, d4, _⟩ := cells5 P8.out.box
            obtain ⟨r0, r1, r2, r3, r4, rf⟩ := cells5 P8.out.res
            have rf0 := rf 0; have rf1 := rf 1; have rf2 := rf 2; have rf3 := rf 3; have rf4 := rf 4
            obtain ⟨z0, z1, z2, z3, z4, _⟩ := cells5 (put5_heap (a := .int .i64 6) (b := .bool false) (c := .string ⟨#[]⟩) (d := .slice (some ⟨gn, 0, none⟩) (ns.length + 1) capn) (e := .slice (some ⟨gk, 0, none⟩) (ks.length + 1) capk) P8.out.res)
            have FIN := Lib.hid (P8.out.fin hbl); have Z := Lib.hid (And.intro z0 (And.intro z1 (And.intro z2 (And.intro z3 z4))))
            clear z0 z1 z2 z3 z4 rf
            go_wp2_with fail
            obtain ⟨z0, z1, z2, z3, z4⟩ := Z.out
            refine bodyPost_ret (v := .agg #[.int .i64 6, .bool false, .string ⟨#[]⟩, .slice (some ⟨gn, 0, none⟩) (ns.length + 1) capn, .slice (some ⟨gk, 0, none⟩) (ks.length + 1) capk]) (by simp [results, Tryz.results128, go_sem, z0, z1, z2, z3, z4]) rfl ?_
            obtain ⟨f1, f2, f3⟩ := FIN.out
            exact RG.ok HRD.out f3 ⟨_, rfl, f1, f2⟩
          · have hw : Cx.word s.data.toList [125] (Cx.skipB s.data.toList j2) = .error (7, Cx.skipB s.data.toList j2) := by unfold Cx.word; rw [if_neg h93]
            rw [hw] at hr
            simp only at hr
            have HRD := Lib.hid hr
            refine (show Calls Tryz.prog 162 #[.pointer (some ⟨b, 0, none⟩), .int .u8 125] _ _ from more_bad s j2 n2 b 125 _ P7.out.rd hj2 hs' h93 h44).mono ?_
            rintro e w9 ⟨rfl, k1, k2⟩
            have P8 := Lib.hid (P7.out.move hbl k2 k1)
            clear hr hw h44 h93 k1 k2 P7 HRC
            obtain ⟨d0, d1, d2, d3, d4, _⟩ := cells5 P8.out.box
            obtain ⟨r0, r1, r2, r3, r4, rf⟩ := cells5 P8.out.res
            have rf0 := rf 0; have rf1 := rf 1; have rf2 := rf 2; have rf3 := rf 3; have rf4 := rf 4
            obtain ⟨z0, z1, z2, z3, z4, _⟩ := cells5 (put5_heap (a := .int .i64 6) (b := .bool false) (c := .string ⟨#[]⟩) (d := .slice (some ⟨gn, 0, none⟩) (ns.length + 1) capn) (e := .slice (some ⟨gk, 0, none⟩) (ks.length + 1) capk) P8.out.res)
            have FIN := Lib.hid (P8.out.fin hbl); have Z := Lib.hid (And.intro z0 (And.intro z1 (And.intro z2 (And.intro z3 z4))))
            clear z0 z1 z2 z3 z4 rf
            go_wp2_with fail
            obtain ⟨z0, z1, z2, z3, z4⟩ := Z.out
            refine bodyPost_ret (v := .agg #[.int .i64 6, .bool false, .string ⟨#[]⟩, .slice (some ⟨gn, 0, none⟩) (ns.length + 1) capn, .slice (some ⟨gk, 0, none⟩) (ks.length + 1) capk]) (by simp [results, Tryz.results128, go_sem, z0, z1, z2, z3, z4]) rfl ?_
            obtain ⟨f1, f2, f3⟩ := FIN.out
            exact RG.err HRD.out f3 ⟨_, _, rfl, f1⟩ (show (7 : Nat) ≠ 0 by decide) hlp4 f2
end Go.Proofs.YtejlddimokmgjaaGreatDoor
