/- WALKS: Parse, as the document's answer reads a text. -/
import Derived.Test.YtejlddimokmgjaaGreatDoorYRv
import Derived.Test.YtejlddimokmgjaaGreatDoorKf
namespace Go.Proofs.YtejlddimokmgjaaGreatDoor
open Go.RowKit

def pT (r : Cx.Res Cx.J) : Cx.J × Nat × Nat := match r with | .ok v => (v, 0, 0) | .error (e, p) => (.mk 0 false [] [] [], e, p)
/-- While the answer's Parse runs: the result's box at B, the reader at B + 1. -/
structure QJ (B : Nat) (s : ByteArray) (w0 : World) (j : Nat) (m e p : Int) (w : World) : Prop where
  base : B = w0.heap.size
  rd : R2 (B + 1) s j m e p w
  bl : Below B w0 w
  res : w.heap[B]? = some (.cells zeroJ 48 (0, 0))
theorem QJ.move {B : Nat} {s : ByteArray} {w0 : World} {j j' : Nat} {m e p m' e' p' : Int} {w w' : World} (h : QJ B s w0 j m e p w) (k : Mv (B + 1) w w') (hrd : R2 (B + 1) s j' m' e' p' w') : QJ B s w0 j' m' e' p' w' :=
  ⟨h.base, hrd, Mv.to_below h.bl k (by omega) (by have := heap_lt h.res; omega), k.heap h.res (by omega)⟩
theorem QJ.fin {B : Nat} {s : ByteArray} {w0 : World} {j : Nat} {m e p : Int} {w : World} (h : QJ B s w0 j m e p w) (c0 c1 c2 c3 c4 : Value) : Below w0.heap.size w0 (put5 w B c0 c1 c2 c3 c4) := by
  have hB := h.base
  subst hB
  exact ((((h.bl.setCell (p := ⟨w0.heap.size, 0, none⟩) (Nat.le_refl _) _).setCell (p := ⟨w0.heap.size, 1, none⟩) (Nat.le_refl _) _).setCell (p := ⟨w0.heap.size, 2, none⟩) (Nat.le_refl _) _).setCell (p := ⟨w0.heap.size, 3, none⟩) (Nat.le_refl _) _).setCell (p := ⟨w0.heap.size, 4, none⟩) (Nat.le_refl _) _
theorem QJ.fresh (s : ByteArray) (w : World) : QJ w.heap.size s w 0 0 0 0 ((w.alloc (.cells zeroJ 48)).alloc (.cells #[.string s, .int .i64 0, .int .i64 0, .int .i64 0, .int .i64 0] 117)) :=
  ⟨rfl, by
    have := heap_alloc_new (w.alloc (.cells zeroJ 48)) (.cells #[.string s, .int .i64 0, .int .i64 0, .int .i64 0, .int .i64 0] 117)
    unfold R2; simpa using this, ((Below.refl _ w).alloc (Nat.le_refl _) _).alloc (by simp) _, by rw [Below.heap_alloc _ _ _ (by simp)]; exact heap_alloc_new w _⟩

set_option maxRecDepth 100000 in
set_option maxHeartbeats 4000000 in
theorem refParse_calls (s : ByteArray) (w : World) (hmax : s.size ≤ maxLen) : Calls Tryz.prog 38 #[.string s] w (PRet s w) := by
  unfold maxLen at hmax
  by_cases hlong : 100000 < s.size
  · have hl : (100000 : Int) < (s.size : Int) := by omega
    have hr : parseT s.data.toList = (.mk 0 false [] [] [], 5, 0) := by
      unfold parseT Cx.parse; rw [if_pos (show 100000 < s.data.toList.length by exact hlong)]
    have HR := Lib.hid hr
    obtain ⟨r0, r1, r2, r3, r4, rf⟩ := cells5 (heap_alloc_new w (.cells #[.int .i64 0, .bool false, .string ⟨#[]⟩, .slice none 0 0, .slice none 0 0] 48))
    have rf0 := rf 0; have rf1 := rf 1; have rf2 := rf 2; have rf3 := rf 3; have rf4 := rf 4
    clear hr hlong rf
    go_enter Tryz.func38, Tryz.ntmps38
    go_wp2_with fail
    refine bodyPost_ret (v := .tuple #[.agg #[.int .i64 0, .bool false, .string ⟨#[]⟩, .slice none 0 0, .slice none 0 0], .int .i64 5, .int .i64 0]) (by simp [results, Tryz.results38, go_sem, r0, r1, r2, r3, r4]) rfl ?_
    unfold PRet
    rw [HR.out]
    exact ⟨[.int .i64 0, .bool false, .string ⟨#[]⟩, .slice none 0 0, .slice none 0 0], rfl, JAt.plain, (Below.refl _ w).alloc (Nat.le_refl _) _⟩
  · have hs : s.size ≤ 100000 := by omega
    have hs' : s.size ≤ maxLen := by unfold maxLen; omega
    have hl : ¬ (100000 : Int) < (s.size : Int) := by omega
    have Q1 := Lib.hid (QJ.fresh s w)
    obtain ⟨RES, hRES⟩ : ∃ RES, RES = Cx.parse s.data.toList := ⟨_, rfl⟩
    have hP : parseT s.data.toList = pT RES := by rw [hRES]; rfl
    unfold Cx.parse at hRES
    rw [if_neg (show ¬ 100000 < s.data.toList.length by exact hlong), show s.data.toList.length = s.size from rfl] at hRES
    have HR := Lib.hid hRES; have HP := Lib.hid hP
    clear hRES hP hlong
    go_enter Tryz.func38, Tryz.ntmps38
    go_wp2_with fail
    refine (value2_calls s (w.heap.size + 1) hs (s.size + 1) 0 _ 0 0 (by omega) Q1.out.rd (by omega) (by omega) (by omega)).mono ?_
    intro e w3 hgv
    obtain ⟨k, cs, j2, m2, y, qq, rfl, kj, km, kr, hcase⟩ := hgv.both
    obtain ⟨c0, c1, c2, c3, c4, rfl⟩ := five kj.length
    obtain ⟨x0, x1, x2, x3, x4, x5, x6, x7, x8, rfl, rfl, rfl, rfl, rfl⟩ := five_shape kj
    have Q3 := Lib.hid (Q1.out.move km kr)
    have hj2 : j2 ≤ s.size := by
      rcases hcase with ⟨_, _, n2, _, hv⟩ | ⟨_, h, _⟩
      · exact ((Cx.value_fine s.data.toList (s.size + 1) 0 (by omega)).ok 0 0 k j2 n2 (by omega) (by omega) hv).2.1
      · exact h
    have h31 : w.heap.size + 2 ≤ w3.heap.size := by have := km.size; simp at this; omega
    have hj4 : JAt (w3.alloc (.cells #[.int .i64 x0, .bool x1, .string x2, .slice x3 x4 x5, .slice x6 x7 x8] 48)) (fun g => w.heap.size + 2 ≤ g ∧ g < w3.heap.size) k [.int .i64 x0, .bool x1, .string x2, .slice x3 x4 x5, .slice x6 x7 x8] :=
      JAt.kept (by simp) (fun g hg hl => ⟨Below.heap_alloc _ _ _ hl, by simp at hg; omega, hl⟩) _ _ kj
    have Q4 := Lib.hid (Q3.out.move ((Mv.refl _ w3).alloc (.cells #[.int .i64 x0, .bool x1, .string x2, .slice x3 x4 x5, .slice x6 x7 x8] 48)) (Q3.out.rd.alloc (.cells #[.int .i64 x0, .bool x1, .string x2, .slice x3 x4 x5, .slice x6 x7 x8] 48)))
    have X4 := Lib.hid (heap_alloc_new w3 (.cells #[.int .i64 x0, .bool x1, .string x2, .slice x3 x4 x5, .slice x6 x7 x8] 48))
    have HJ := Lib.hid hj4; have HCS := Lib.hid hcase
    clear kj km kr hcase hgv Q1 Q3 hj4
    go_wp2_with fail
    refine (blanks2_calls s j2 m2 y qq (w.heap.size + 1) _ Q4.out.rd hj2 hs').mono ?_
    rintro e w5 ⟨rfl, k1, k2⟩
    have hlp : Cx.skipB s.data.toList j2 ≤ s.size := Cx.skipB_len (s := s.data.toList) (show j2 ≤ s.data.toList.length from hj2)
    obtain ⟨p, hp⟩ : ∃ p, p = Cx.skipB s.data.toList j2 := ⟨_, rfl⟩
    rw [← hp] at k1 hlp
    have Q5 := Lib.hid (Q4.out.move k2 k1)
    have X5 := Lib.hid (k2.heap X4.out (by omega))
    have hj5 : JAt w5 (fun g => w.heap.size + 2 ≤ g) k [.int .i64 x0, .bool x1, .string x2, .slice x3 x4 x5, .slice x6 x7 x8] :=
      JAt.kept k2.size (fun g hg hl => ⟨k2.block g hl (by simp; omega), hg.1⟩) _ _ HJ.out
    have J5 := Lib.hid hj5; have HPP := Lib.hid hp
    clear k1 k2 hp hj5 HJ X4 Q4
    have q0 := Q5.out.rd.c0; have q1 := Q5.out.rd.c1
    rcases HCS.out with ⟨hy0, hqq, n2, hm2, hv⟩ | ⟨hy1, _, x, hv, hyx, hqx⟩
    · subst hy0 hqq hm2
      have hr := HR.out
      rw [hv] at hr
      simp only at hr
      rw [← HPP.out] at hr
      by_cases hlt : p < s.size
      · rw [if_pos hlt] at hr
        have HE := Lib.hid hr
        have hltI : (p : Int) < (s.size : Int) := by omega
        clear hr hv HCS HR
        go_wp2_with fail
        refine (fail_calls s p _ 0 7 p (w.heap.size + 1) _ Q5.out.rd).mono ?_
        rintro e w6 ⟨rfl, k1, k2⟩
        have Q6 := Lib.hid (Q5.out.move k2 k1)
        clear k1 k2 q0 q1 Q5
        go_wp2_with fail
        refine (ok_calls s _ _ _ _ (w.heap.size + 1) _ Q6.out.rd).mono ?_
        rintro e w' ⟨rfl, hw'⟩
        have hw' := hw'.symm
        subst hw'
        rw [show ((7 : Int) == 0) = false by decide]
        have q3 := Q6.out.rd.c3; have q4 := Q6.out.rd.c4
        obtain ⟨r0, r1, r2, r3, r4, rf⟩ := cells5 Q6.out.res
        have rf0 := rf 0; have rf1 := rf 1; have rf2 := rf 2; have rf3 := rf 3; have rf4 := rf 4
        have nb : w.heap.size + 1 ≠ w.heap.size := by omega
        obtain ⟨z0, z1, z2, z3, z4, _⟩ := cells5 (put5_heap (a := (.int .i64 0)) (b := (.bool false)) (c := (.string ⟨#[]⟩)) (d := (.slice none 0 0)) (e := (.slice none 0 0)) Q6.out.res)
        have FIN := Lib.hid (Q6.out.fin (.int .i64 0) (.bool false) (.string ⟨#[]⟩) (.slice none 0 0) (.slice none 0 0))
        have Z := Lib.hid (And.intro z0 (And.intro z1 (And.intro z2 (And.intro z3 z4))))
        clear z0 z1 z2 z3 z4 rf
        go_wp2_with fail
        go_region
        go_wp2_with fail
        obtain ⟨z0, z1, z2, z3, z4⟩ := Z.out
        refine bodyPost_ret (v := .tuple #[.agg #[.int .i64 0, .bool false, .string ⟨#[]⟩, .slice none 0 0, .slice none 0 0], .int .i64 7, .int .i64 p]) (by simp [results, Tryz.results38, go_sem, z0, z1, z2, z3, z4]) rfl ?_
        unfold PRet
        rw [HP.out, HE.out]
        exact ⟨[.int .i64 0, .bool false, .string ⟨#[]⟩, .slice none 0 0, .slice none 0 0], rfl, JAt.plain, FIN.out.drew⟩
      · rw [if_neg hlt] at hr
        have HE := Lib.hid hr
        have hltI : ¬ (p : Int) < (s.size : Int) := by omega
        clear hr hv HCS HR
        obtain ⟨e0, e1, e2, e3, e4, _⟩ := cells5 X5.out
        obtain ⟨r0, r1, r2, r3, r4, rf⟩ := cells5 Q5.out.res
        have rf0 := rf 0; have rf1 := rf 1; have rf2 := rf 2; have rf3 := rf 3; have rf4 := rf 4
        obtain ⟨z0, z1, z2, z3, z4, _⟩ := cells5 (put5_heap (a := (.int .i64 x0)) (b := (.bool x1)) (c := (.string x2)) (d := (.slice x3 x4 x5)) (e := (.slice x6 x7 x8)) Q5.out.res)
        have FIN := Lib.hid (Q5.out.fin (.int .i64 x0) (.bool x1) (.string x2) (.slice x3 x4 x5) (.slice x6 x7 x8))
        have Z := Lib.hid (And.intro z0 (And.intro z1 (And.intro z2 (And.intro z3 z4))))
        have hj6 : JAt (put5 w5 w.heap.size (.int .i64 x0) (.bool x1) (.string x2) (.slice x3 x4 x5) (.slice x6 x7 x8)) (fun g => w.heap.size ≤ g) k [.int .i64 x0, .bool x1, .string x2, .slice x3 x4 x5, .slice x6 x7 x8] :=
          JAt.kept (by rw [put5_size]; exact Nat.le_refl _) (fun g hg hl => ⟨put5_other (by omega), by omega⟩) _ _ J5.out
        have J6 := Lib.hid hj6
        clear z0 z1 z2 z3 z4 rf hj6
        go_wp2_with fail
        refine (ok_calls s _ _ _ _ (w.heap.size + 1) _ Q5.out.rd).mono ?_
        rintro e w' ⟨rfl, hw'⟩
        have hw' := hw'.symm
        subst hw'
        go_wp2_with fail
        obtain ⟨z0, z1, z2, z3, z4⟩ := Z.out
        refine bodyPost_ret (v := .tuple #[.agg #[.int .i64 x0, .bool x1, .string x2, .slice x3 x4 x5, .slice x6 x7 x8], .int .i64 0, .int .i64 0]) (by simp [results, Tryz.results38, go_sem, z0, z1, z2, z3, z4]) rfl ?_
        unfold PRet
        rw [HP.out, HE.out]
        exact ⟨[.int .i64 x0, .bool x1, .string x2, .slice x3 x4 x5, .slice x6 x7 x8], rfl, J6.out, FIN.out⟩
    · have hr := HR.out
      rw [hv] at hr
      simp only at hr
      subst hyx hqx
      obtain ⟨xe, xp⟩ := x
      simp only at hr hy1 Q5 ⊢
      have HE := Lib.hid hr
      have hxb : ((xe : Int) == 0) = false := by rw [beq_eq_false_iff_ne]; exact hy1
      have HY := Lib.hid hy1
      clear hr hv HCS HR hy1
      by_cases hlt : p < s.size
      · have hltI : (p : Int) < (s.size : Int) := by omega
        go_wp2_with fail
        refine (fail_no s p _ _ _ 7 p (w.heap.size + 1) _ Q5.out.rd HY.out).mono ?_
        rintro e w' ⟨rfl, hw'⟩
        have hw' := hw'.symm
        subst hw'
        go_wp2_with fail
        refine (ok_calls s _ _ _ _ (w.heap.size + 1) _ Q5.out.rd).mono ?_
        rintro e w' ⟨rfl, hw'⟩
        have hw' := hw'.symm
        subst hw'
        rw [hxb]
        have q3 := Q5.out.rd.c3; have q4 := Q5.out.rd.c4
        obtain ⟨r0, r1, r2, r3, r4, rf⟩ := cells5 Q5.out.res
        have rf0 := rf 0; have rf1 := rf 1; have rf2 := rf 2; have rf3 := rf 3; have rf4 := rf 4
        have nb : w.heap.size + 1 ≠ w.heap.size := by omega
        obtain ⟨z0, z1, z2, z3, z4, _⟩ := cells5 (put5_heap (a := (.int .i64 0)) (b := (.bool false)) (c := (.string ⟨#[]⟩)) (d := (.slice none 0 0)) (e := (.slice none 0 0)) Q5.out.res)
        have FIN := Lib.hid (Q5.out.fin (.int .i64 0) (.bool false) (.string ⟨#[]⟩) (.slice none 0 0) (.slice none 0 0))
        have Z := Lib.hid (And.intro z0 (And.intro z1 (And.intro z2 (And.intro z3 z4))))
        clear z0 z1 z2 z3 z4 rf
        go_wp2_with fail
        go_region
        go_wp2_with fail
        obtain ⟨z0, z1, z2, z3, z4⟩ := Z.out
        refine bodyPost_ret (v := .tuple #[.agg #[.int .i64 0, .bool false, .string ⟨#[]⟩, .slice none 0 0, .slice none 0 0], .int .i64 xe, .int .i64 xp]) (by simp [results, Tryz.results38, go_sem, z0, z1, z2, z3, z4]) rfl ?_
        unfold PRet
        rw [HP.out, HE.out]
        exact ⟨[.int .i64 0, .bool false, .string ⟨#[]⟩, .slice none 0 0, .slice none 0 0], rfl, JAt.plain, FIN.out.drew⟩
      · have hltI : ¬ (p : Int) < (s.size : Int) := by omega
        go_wp2_with fail
        refine (ok_calls s _ _ _ _ (w.heap.size + 1) _ Q5.out.rd).mono ?_
        rintro e w' ⟨rfl, hw'⟩
        have hw' := hw'.symm
        subst hw'
        rw [hxb]
        have q3 := Q5.out.rd.c3; have q4 := Q5.out.rd.c4
        obtain ⟨r0, r1, r2, r3, r4, rf⟩ := cells5 Q5.out.res
        have rf0 := rf 0; have rf1 := rf 1; have rf2 := rf 2; have rf3 := rf 3; have rf4 := rf 4
        have nb : w.heap.size + 1 ≠ w.heap.size := by omega
        obtain ⟨z0, z1, z2, z3, z4, _⟩ := cells5 (put5_heap (a := (.int .i64 0)) (b := (.bool false)) (c := (.string ⟨#[]⟩)) (d := (.slice none 0 0)) (e := (.slice none 0 0)) Q5.out.res)
        have FIN := Lib.hid (Q5.out.fin (.int .i64 0) (.bool false) (.string ⟨#[]⟩) (.slice none 0 0) (.slice none 0 0))
        have Z := Lib.hid (And.intro z0 (And.intro z1 (And.intro z2 (And.intro z3 z4))))
        clear z0 z1 z2 z3 z4 rf
        go_wp2_with fail
        go_region
        go_wp2_with fail
        obtain ⟨z0, z1, z2, z3, z4⟩ := Z.out
        refine bodyPost_ret (v := .tuple #[.agg #[.int .i64 0, .bool false, .string ⟨#[]⟩, .slice none 0 0, .slice none 0 0], .int .i64 xe, .int .i64 xp]) (by simp [results, Tryz.results38, go_sem, z0, z1, z2, z3, z4]) rfl ?_
        unfold PRet
        rw [HP.out, HE.out]
        exact ⟨[.int .i64 0, .bool false, .string ⟨#[]⟩, .slice none 0 0, .slice none 0 0], rfl, JAt.plain, FIN.out.drew⟩
end Go.Proofs.YtejlddimokmgjaaGreatDoor
