/- WALKS: values, as the document's answer reads them. -/
import Derived.Test.YtejlddimokmgjaaGreatDoorYRo
namespace Go.Proofs.YtejlddimokmgjaaGreatDoor
open Go.RowKit

theorem digit3_calls (c : UInt8) (w : World) : Calls Tryz.prog 124 #[.int .u8 c.toNat] w fun e w' => e = .returned (.bool (Cx.isDig c)) ∧ w' = w :=
  (digit2_calls c w).mono fun _ _ h => ⟨h.1, h.2.symm⟩
theorem starts_only {c : UInt8} (h : Cx.starts c = true) : c = 110 ∨ c = 116 ∨ c = 102 ∨ c = 34 ∨ c = 91 ∨ c = 123 ∨ c = 45 ∨ Cx.isDig c = true := by
  have := Cx.starts_mem.1 h
  simp only [List.mem_cons, List.not_mem_nil, or_false] at this
  rcases this with h | h | h | h | h | h | h | h | h | h | h | h | h | h | h | h | h <;> subst h <;> decide

/-- What a reader of values may lean on, and what its box holds. -/
structure VJ (b B : Nat) (s : ByteArray) (w0 : World) (j : Nat) (m e p : Int) (w : World) : Prop where
  base : B = w0.heap.size
  rd : R2 b s j m e p w
  mv : Mv b w0 w
  res : w.heap[B]? = some (.cells zeroJ 48 (0, 0))
theorem VJ.fresh {b : Nat} {s : ByteArray} {w : World} {j : Nat} {m e p : Int} (h : R2 b s j m e p w) : VJ b w.heap.size s w j m e p (w.alloc (.cells zeroJ 48)) :=
  ⟨rfl, h.alloc _, (Mv.refl b w).alloc _, heap_alloc_new w _⟩
theorem VJ.move {b B : Nat} {s : ByteArray} {w0 : World} {j j' : Nat} {m e p m' e' p' : Int} {w w' : World} (h : VJ b B s w0 j m e p w) (hb : b < B) (k : Mv b w w') (hrd : R2 b s j' m' e' p' w') : VJ b B s w0 j' m' e' p' w' :=
  ⟨h.base, hrd, h.mv.trans k, k.heap h.res (by omega)⟩
theorem VJ.drewN {b B : Nat} {s : ByteArray} {w0 : World} {j : Nat} {m e p : Int} {w : World} (h : VJ b B s w0 j m e p w) (n : Nat) : VJ b B s w0 j m e p (w.drewN n) := ⟨h.base, h.rd, h.mv.drewN n, h.res⟩
theorem VJ.fin {b B : Nat} {s : ByteArray} {w0 : World} {j : Nat} {m e p : Int} {w : World} (h : VJ b B s w0 j m e p w) (hb : b < B) (c0 c1 c2 c3 c4 : Value) :
    R2 b s j m e p (put5 w B c0 c1 c2 c3 c4) ∧ Mv b w0 (put5 w B c0 c1 c2 c3 c4) ∧ True := by
  have hB := h.base
  refine ⟨?_, put5_mv h.mv (by omega), trivial⟩
  unfold R2; rw [put5_other (by omega)]; exact h.rd
theorem VJ.fin' {b B : Nat} {s : ByteArray} {w0 wc : World} {j : Nat} {m e p : Int} {w : World} {v : Cx.J} {c0 c1 c2 c3 c4 : Value} (h : VJ b B s w0 j m e p w) (hb : b < B) (hc : B < wc.heap.size) (hv : JAt w (fun g => wc.heap.size ≤ g) v [c0, c1, c2, c3, c4]) :
    JAt (put5 w B c0 c1 c2 c3 c4) (fun g => w0.heap.size ≤ g) v [c0, c1, c2, c3, c4] ∧ R2 b s j m e p (put5 w B c0 c1 c2 c3 c4) ∧ Mv b w0 (put5 w B c0 c1 c2 c3 c4) := by
  have hB := h.base
  refine ⟨JAt.kept (by rw [put5_size]; exact Nat.le_refl _) (fun g hg _ => ⟨put5_other (by omega), by omega⟩) _ _ hv, ?_, put5_mv h.mv (by omega)⟩
  unfold R2; rw [put5_other (by omega)]; exact h.rd

set_option maxRecDepth 100000 in
set_option maxHeartbeats 4000000 in
theorem value2_calls (s : ByteArray) (b : Nat) (hs : s.size ≤ 100000) : ∀ (n d : Nat) (w : World) (i m : Nat), d ≤ 20 → R2 b s i m 0 0 w → i ≤ s.size → m ≤ 5000 → s.size < i + n →
    Calls Tryz.prog 77 #[.pointer (some ⟨b, 0, none⟩), .int .i64 d] w (RG (Cx.value s.data.toList n d i m) (JRet2 b s w) (JBad w) b s w) := by
  have hs' : s.size ≤ maxLen := by unfold maxLen; omega
  intro n
  induction n with
  | zero => intro d w i m _ _ _ _ h; omega
  | succ n ih =>
  intro d w i m hd h hi hm hn
  have hbl := h.lt
  have IH := Lib.hid ih; clear ih
  obtain ⟨RES, hRES⟩ : ∃ RES, RES = Cx.value s.data.toList (n + 1) d i m := ⟨_, rfl⟩
  rw [← hRES]
  unfold Cx.value at hRES
  simp only at hRES
  have V1 := Lib.hid (VJ.fresh h)
  have HR := Lib.hid hRES
  clear hRES h
  go_enter Tryz.func77, Tryz.ntmps77
  go_wp2_with fail
  refine (blanks2_calls s i m 0 0 b _ V1.out.rd hi hs').mono ?_
  rintro e w2 ⟨rfl, k1, k2⟩
  have hv2 := V1.out.move hbl k2 k1
  have hlp : Cx.skipB s.data.toList i ≤ s.size := Cx.skipB_len (s := s.data.toList) (show i ≤ s.data.toList.length from hi)
  have hip := Cx.skipB_le (s := s.data.toList) (i := i)
  have hr := HR.out
  generalize hp : Cx.skipB s.data.toList i = p at hv2 hlp hip hr ⊢
  have V1 := Lib.hid hv2; have HR := Lib.hid hr
  clear k1 k2 hv2 hp hr
  go_wp2_with fail
  refine (next_mv s p m 0 0 b _ V1.out.rd hs').mono ?_
  rintro e w3 ⟨rfl, k1, k2⟩
  have V2 := Lib.hid (V1.out.move hbl k2 k1)
  have c0 := k1.c0; have c1 := k1.c1
  clear k1 k2 V1
  obtain ⟨c, hc⟩ : ∃ c, c = Cx.peek s.data.toList p := ⟨_, rfl⟩
  rw [← hc]
  have hr := HR.out
  rw [← hc] at hr
  have HR := Lib.hid hr; have HC := Lib.hid hc
  have hc0 : s.size ≤ p → c = 0 := fun h => by rw [hc]; exact Cx.peek_end h
  have HC0 := Lib.hid hc0
  clear hr hc hc0
  go_upto_region 3 with fail
  go_cut [6] (fun x wr => x = .bool (Cx.starts c) ∧ Hid (VJ b w.heap.size s w p m 0 0 wr))
  case first =>
    rcases Nat.lt_or_ge p s.size with hlt | hge
    rotate_left
    · have h0 := HC0.out hge
      subst h0
      have hd : decide (p < s.size) = false := by simp; omega
      go_wp2_with fail
      go_quiet ((go_at_call 124; exact Calls.quiet_of_same (digit3_calls _ _)))
      go_wp2_with fail
      go_meet
      case rel => exact ⟨rfl, Lib.hid (V2.out.drewN _)⟩
    have hltI : (p : Int) < (s.size : Int) := by omega
    by_cases h110 : c = 110
    · subst h110
      go_wp2_with fail
      go_quiet ((go_at_call 124; exact Calls.quiet_of_same (digit3_calls _ _)))
      go_wp2_with fail
      go_meet
      case rel => exact ⟨rfl, Lib.hid (V2.out.drewN _)⟩
    have n110 : ((c.toNat : Int) == 110) = false := u8ne (k := 110) h110
    by_cases h116 : c = 116
    · subst h116
      go_wp2_with fail
      go_quiet ((go_at_call 124; exact Calls.quiet_of_same (digit3_calls _ _)))
      go_wp2_with fail
      go_meet
      case rel => exact ⟨rfl, Lib.hid (V2.out.drewN _)⟩
    have n116 : ((c.toNat : Int) == 116) = false := u8ne (k := 116) h116
    by_cases h102 : c = 102
    · subst h102
      go_wp2_with fail
      go_quiet ((go_at_call 124; exact Calls.quiet_of_same (digit3_calls _ _)))
      go_wp2_with fail
      go_meet
      case rel => exact ⟨rfl, Lib.hid (V2.out.drewN _)⟩
    have n102 : ((c.toNat : Int) == 102) = false := u8ne (k := 102) h102
    by_cases h34 : c = 34
    · subst h34
      go_wp2_with fail
      go_quiet ((go_at_call 124; exact Calls.quiet_of_same (digit3_calls _ _)))
      go_wp2_with fail
      go_meet
      case rel => exact ⟨rfl, Lib.hid (V2.out.drewN _)⟩
    have n34 : ((c.toNat : Int) == 34) = false := u8ne (k := 34) h34
    by_cases h91 : c = 91
    · subst h91
      go_wp2_with fail
      go_quiet ((go_at_call 124; exact Calls.quiet_of_same (digit3_calls _ _)))
      go_wp2_with fail
      go_meet
      case rel => exact ⟨rfl, Lib.hid (V2.out.drewN _)⟩
    have n91 : ((c.toNat : Int) == 91) = false := u8ne (k := 91) h91
    by_cases h123 : c = 123
    · subst h123
      go_wp2_with fail
      go_quiet ((go_at_call 124; exact Calls.quiet_of_same (digit3_calls _ _)))
      go_wp2_with fail
      go_meet
      case rel => exact ⟨rfl, Lib.hid (V2.out.drewN _)⟩
    have n123 : ((c.toNat : Int) == 123) = false := u8ne (k := 123) h123
    by_cases h45 : c = 45
    · subst h45
      go_wp2_with fail
      go_quiet ((go_at_call 124; exact Calls.quiet_of_same (digit3_calls _ _)))
      go_wp2_with fail
      go_meet
      case rel => exact ⟨rfl, Lib.hid (V2.out.drewN _)⟩
    have n45 : ((c.toNat : Int) == 45) = false := u8ne (k := 45) h45
    cases hd : Cx.isDig c with
    | true =>
      have hst : Cx.starts c = true := Cx.starts_dig hd
      have HD := Lib.hid hd; have HST := Lib.hid hst
      clear h110 h116 h102 h34 h91 h123 h45 hd hst
      go_wp2_with fail
      go_quiet ((go_at_call 124; exact Calls.quiet_of_same (digit3_calls _ _)))
      go_wp2_with fail
      go_meet
      case rel => exact ⟨by simp [HD.out, HST.out], Lib.hid (V2.out.drewN _)⟩
    | false =>
      have hst : Cx.starts c = false := by
        cases hx : Cx.starts c with
        | false => rfl
        | true =>
          exfalso
          have := starts_only hx
          simp [h110, h116, h102, h34, h91, h123, h45, hd] at this
      have HD := Lib.hid hd; have HST := Lib.hid hst
      clear h110 h116 h102 h34 h91 h123 h45 hd hst
      go_wp2_with fail
      go_quiet ((go_at_call 124; exact Calls.quiet_of_same (digit3_calls _ _)))
      go_wp2_with fail
      go_meet
      case rel => exact ⟨by simp [HD.out, HST.out], Lib.hid (V2.out.drewN _)⟩
  case rest =>
  obtain ⟨rfl, V3⟩ := hcut
  clear V2 c0 c1
  have hr := HR.out
  cases hst : Cx.starts c with
  | false =>
    rw [if_pos hst] at hr
    have HE := Lib.hid hr
    have q1 := V3.out.rd.c1
    clear hr HR hst
    go_wp2_with fail
    refine (fail_calls s p m 0 7 p b _ V3.out.rd).mono ?_
    rintro e w6 ⟨rfl, k1, k2⟩
    have V6 := Lib.hid (V3.out.move hbl k2 k1)
    clear k1 k2 V3 q1
    obtain ⟨r0, r1, r2, r3, r4, rf⟩ := cells5 V6.out.res
    have rf0 := rf 0; have rf1 := rf 1; have rf2 := rf 2; have rf3 := rf 3; have rf4 := rf 4
    obtain ⟨z0, z1, z2, z3, z4, _⟩ := cells5 (put5_heap (a := .int .i64 0) (b := .bool false) (c := .string ⟨#[]⟩) (d := .slice none 0 0) (e := .slice none 0 0) V6.out.res)
    have FIN := Lib.hid (V6.out.fin hbl (.int .i64 0) (.bool false) (.string ⟨#[]⟩) (.slice none 0 0) (.slice none 0 0))
    have Z := Lib.hid (And.intro z0 (And.intro z1 (And.intro z2 (And.intro z3 z4))))
    clear z0 z1 z2 z3 z4 rf
    go_wp2_with fail
    obtain ⟨z0, z1, z2, z3, z4⟩ := Z.out
    refine bodyPost_ret (v := .agg #[.int .i64 0, .bool false, .string ⟨#[]⟩, .slice none 0 0, .slice none 0 0]) (by simp [results, Tryz.results77, go_sem, z0, z1, z2, z3, z4]) rfl ?_
    obtain ⟨f2, f3, f4⟩ := FIN.out
    exact RG.err HE.out f3 ⟨_, _, rfl, JAt.plain (k := 0) (is := false) (t := [])⟩ (show (7 : Nat) ≠ 0 by decide) hlp f2
  | true =>
  have hplt : p < s.size := by
    rcases Nat.lt_or_ge p s.size with g | g
    · exact g
    · rw [HC0.out g] at hst; exact absurd hst (by decide)
  rw [if_neg (by rw [hst]; decide)] at hr
  have HST := Lib.hid hst
  clear hst HR HC0
  by_cases hmany : 5000 ≤ m
  · rw [if_pos hmany] at hr
    have HE := Lib.hid hr
    have q1 := V3.out.rd.c1; have q2 := V3.out.rd.c2
    have hmI : (5000 : Int) ≤ (m : Int) := by omega
    clear hr hmany
    go_wp2_with fail
    refine (fail_calls s p m 0 6 p b _ V3.out.rd).mono ?_
    rintro e w6 ⟨rfl, k1, k2⟩
    have V6 := Lib.hid (V3.out.move hbl k2 k1)
    clear k1 k2 V3 q1 q2
    obtain ⟨r0, r1, r2, r3, r4, rf⟩ := cells5 V6.out.res
    have rf0 := rf 0; have rf1 := rf 1; have rf2 := rf 2; have rf3 := rf 3; have rf4 := rf 4
    obtain ⟨z0, z1, z2, z3, z4, _⟩ := cells5 (put5_heap (a := .int .i64 0) (b := .bool false) (c := .string ⟨#[]⟩) (d := .slice none 0 0) (e := .slice none 0 0) V6.out.res)
    have FIN := Lib.hid (V6.out.fin hbl (.int .i64 0) (.bool false) (.string ⟨#[]⟩) (.slice none 0 0) (.slice none 0 0))
    have Z := Lib.hid (And.intro z0 (And.intro z1 (And.intro z2 (And.intro z3 z4))))
    clear z0 z1 z2 z3 z4 rf
    go_wp2_with fail
    obtain ⟨z0, z1, z2, z3, z4⟩ := Z.out
    refine bodyPost_ret (v := .agg #[.int .i64 0, .bool false, .string ⟨#[]⟩, .slice none 0 0, .slice none 0 0]) (by simp [results, Tryz.results77, go_sem, z0, z1, z2, z3, z4]) rfl ?_
    obtain ⟨f2, f3, f4⟩ := FIN.out
    exact RG.err HE.out f3 ⟨_, _, rfl, JAt.plain (k := 0) (is := false) (t := [])⟩ (show (6 : Nat) ≠ 0 by decide) hlp f2
  rw [if_neg hmany] at hr
  have HRB := Lib.hid hr
  have hmI : ¬ (5000 : Int) ≤ (m : Int) := by omega
  have q2 := V3.out.rd.c2; have qf2 := V3.out.rd.fr 2
  clear hr hmany
  obtain ⟨w4, hw4⟩ : ∃ w4, w4 = wc.setCell ⟨b, 2, none⟩ (.int .i64 ((m : Int) + 1)) := ⟨_, rfl⟩
  have hv4 : VJ b w.heap.size s w p (m + 1 : Nat) 0 0 w4 := by
    rw [hw4]; exact V3.out.move hbl ((Mv.refl b wc).set (.inl rfl) _) (V3.out.rd.set2 _)
  have q1 := V3.out.rd.c1; have q1f := V3.out.rd.fr 1
  have V3 := Lib.hid hv4; have HW3 := Lib.hid hw4
  clear hv4 hw4
  have HNC : Hid (c.toNat < 256) := Lib.hid c.toNat_lt
  by_cases h110 : c = 110
  · subst h110
    have hr := HRB.out
    rw [if_pos rfl] at hr
    have HRC := Lib.hid hr
    clear hr HRB HST HC
    go_wp2_with fail
    rw [← HW3.out]
    clear HW3 q1 q1f q2 qf2
    refine (word2_calls s p ((m + 1 : Nat) : Int) b ⟨#[110,117,108,108]⟩ _ V3.out.rd hlp hs' (by decide) (by decide)).mono ?_
    intro e w6 hgv
    cases hw : Cx.word s.data.toList [110,117,108,108] p with
    | error x =>
      obtain ⟨k2, rfl, hx1, j2, m2, hj2, k1⟩ := hgv.of_err hw
      have hr := HRC.out
      rw [hw] at hr
      have V6 := Lib.hid (V3.out.move hbl k2 k1)
      have HRD := Lib.hid hr; have HX1 := Lib.hid hx1
      clear hr hw hgv k1 k2 hx1 HRC V3
      obtain ⟨r0, r1, r2, r3, r4, rf⟩ := cells5 V6.out.res
      have rf0 := rf 0; have rf1 := rf 1; have rf2 := rf 2; have rf3 := rf 3; have rf4 := rf 4
      obtain ⟨z0, z1, z2, z3, z4, _⟩ := cells5 (put5_heap (a := .int .i64 1) (b := .bool false) (c := .string ⟨#[]⟩) (d := .slice none 0 0) (e := .slice none 0 0) V6.out.res)
      have FIN := Lib.hid (V6.out.fin hbl (.int .i64 1) (.bool false) (.string ⟨#[]⟩) (.slice none 0 0) (.slice none 0 0))
      have Z := Lib.hid (And.intro z0 (And.intro z1 (And.intro z2 (And.intro z3 z4))))
      clear z0 z1 z2 z3 z4 rf
      go_wp2_with fail
      obtain ⟨z0, z1, z2, z3, z4⟩ := Z.out
      refine bodyPost_ret (v := .agg #[.int .i64 1, .bool false, .string ⟨#[]⟩, .slice none 0 0, .slice none 0 0]) (by simp [results, Tryz.results77, go_sem, z0, z1, z2, z3, z4]) rfl ?_
      obtain ⟨f2, f3, f4⟩ := FIN.out
      exact RG.err HRD.out f3 ⟨_, _, rfl, JAt.plain (t := [])⟩ HX1.out hj2 f2
    | ok j2 =>
      obtain ⟨⟨rfl, k1⟩, k2⟩ := hgv.of_ok hw
      have hr := HRC.out
      rw [hw] at hr
      have V6 := Lib.hid (V3.out.move hbl k2 k1)
      have HRD := Lib.hid hr
      clear hr hw hgv k1 k2 HRC V3
      obtain ⟨r0, r1, r2, r3, r4, rf⟩ := cells5 V6.out.res
      have rf0 := rf 0; have rf1 := rf 1; have rf2 := rf 2; have rf3 := rf 3; have rf4 := rf 4
      obtain ⟨z0, z1, z2, z3, z4, _⟩ := cells5 (put5_heap (a := .int .i64 1) (b := .bool false) (c := .string ⟨#[]⟩) (d := .slice none 0 0) (e := .slice none 0 0) V6.out.res)
      have FIN := Lib.hid (V6.out.fin hbl (.int .i64 1) (.bool false) (.string ⟨#[]⟩) (.slice none 0 0) (.slice none 0 0))
      have Z := Lib.hid (And.intro z0 (And.intro z1 (And.intro z2 (And.intro z3 z4))))
      clear z0 z1 z2 z3 z4 rf
      go_wp2_with fail
      obtain ⟨z0, z1, z2, z3, z4⟩ := Z.out
      refine bodyPost_ret (v := .agg #[.int .i64 1, .bool false, .string ⟨#[]⟩, .slice none 0 0, .slice none 0 0]) (by simp [results, Tryz.results77, go_sem, z0, z1, z2, z3, z4]) rfl ?_
      obtain ⟨f2, f3, f4⟩ := FIN.out
      exact RG.ok HRD.out f3 ⟨_, rfl, JAt.plain (t := []), f2⟩
  by_cases h116 : c = 116
  · subst h116
    have hr := HRB.out
    rw [if_neg (by decide), if_pos rfl] at hr
    have HRC := Lib.hid hr
    clear hr HRB HST HC h110
    go_wp2_with fail
    rw [← HW3.out]
    clear HW3 q1 q1f q2 qf2
    refine (word2_calls s p ((m + 1 : Nat) : Int) b ⟨#[116,114,117,101]⟩ _ V3.out.rd hlp hs' (by decide) (by decide)).mono ?_
    intro e w6 hgv
    cases hw : Cx.word s.data.toList [116,114,117,101] p with
    | error x =>
      obtain ⟨k2, rfl, hx1, j2, m2, hj2, k1⟩ := hgv.of_err hw
      have hr := HRC.out
      rw [hw] at hr
      have V6 := Lib.hid (V3.out.move hbl k2 k1)
      have HRD := Lib.hid hr; have HX1 := Lib.hid hx1
      clear hr hw hgv k1 k2 hx1 HRC V3
      obtain ⟨r0, r1, r2, r3, r4, rf⟩ := cells5 V6.out.res
      have rf0 := rf 0; have rf1 := rf 1; have rf2 := rf 2; have rf3 := rf 3; have rf4 := rf 4
      obtain ⟨z0, z1, z2, z3, z4, _⟩ := cells5 (put5_heap (a := .int .i64 2) (b := .bool true) (c := .string ⟨#[]⟩) (d := .slice none 0 0) (e := .slice none 0 0) V6.out.res)
      have FIN := Lib.hid (V6.out.fin hbl (.int .i64 2) (.bool true) (.string ⟨#[]⟩) (.slice none 0 0) (.slice none 0 0))
      have Z := Lib.hid (And.intro z0 (And.intro z1 (And.intro z2 (And.intro z3 z4))))
      clear z0 z1 z2 z3 z4 rf
      go_wp2_with fail
      obtain ⟨z0, z1, z2, z3, z4⟩ := Z.out
      refine bodyPost_ret (v := .agg #[.int .i64 2, .bool true, .string ⟨#[]⟩, .slice none 0 0, .slice none 0 0]) (by simp [results, Tryz.results77, go_sem, z0, z1, z2, z3, z4]) rfl ?_
      obtain ⟨f2, f3, f4⟩ := FIN.out
      exact RG.err HRD.out f3 ⟨_, _, rfl, JAt.plain (t := [])⟩ HX1.out hj2 f2
    | ok j2 =>
      obtain ⟨⟨rfl, k1⟩, k2⟩ := hgv.of_ok hw
      have hr := HRC.out
      rw [hw] at hr
      have V6 := Lib.hid (V3.out.move hbl k2 k1)
      have HRD := Lib.hid hr
      clear hr hw hgv k1 k2 HRC V3
      obtain ⟨r0, r1, r2, r3, r4, rf⟩ := cells5 V6.out.res
      have rf0 := rf 0; have rf1 := rf 1; have rf2 := rf 2; have rf3 := rf 3; have rf4 := rf 4
      obtain ⟨z0, z1, z2, z3, z4, _⟩ := cells5 (put5_heap (a := .int .i64 2) (b := .bool true) (c := .string ⟨#[]⟩) (d := .slice none 0 0) (e := .slice none 0 0) V6.out.res)
      have FIN := Lib.hid (V6.out.fin hbl (.int .i64 2) (.bool true) (.string ⟨#[]⟩) (.slice none 0 0) (.slice none 0 0))
      have Z := Lib.hid (And.intro z0 (And.intro z1 (And.intro z2 (And.intro z3 z4))))
      clear z0 z1 z2 z3 z4 rf
      go_wp2_with fail
      obtain ⟨z0, z1, z2, z3, z4⟩ := Z.out
      refine bodyPost_ret (v := .agg #[.int .i64 2, .bool true, .string ⟨#[]⟩, .slice none 0 0, .slice none 0 0]) (by simp [results, Tryz.results77, go_sem, z0, z1, z2, z3, z4]) rfl ?_
      obtain ⟨f2, f3, f4⟩ := FIN.out
      exact RG.ok HRD.out f3 ⟨_, rfl, JAt.plain (t := []), f2⟩
  by_cases h102 : c = 102
  · subst h102
    have hr := HRB.out
    rw [if_neg (by decide), if_neg (by decide), if_pos rfl] at hr
    have HRC := Lib.hid hr
    clear hr HRB HST HC h110 h116
    go_wp2_with fail
    rw [← HW3.out]
    clear HW3 q1 q1f q2 qf2
    refine (word2_calls s p ((m + 1 : Nat) : Int) b ⟨#[102,97,108,115,101]⟩ _ V3.out.rd hlp hs' (by decide) (by decide)).mono ?_
    intro e w6 hgv
    cases hw : Cx.word s.data.toList [102,97,108,115,101] p with
    | error x =>
      obtain ⟨k2, rfl, hx1, j2, m2, hj2, k1⟩ := hgv.of_err hw
      have hr := HRC.out
      rw [hw] at hr
      have V6 := Lib.hid (V3.out.move hbl k2 k1)
      have HRD := Lib.hid hr; have HX1 := Lib.hid hx1
      clear hr hw hgv k1 k2 hx1 HRC V3
      obtain ⟨r0, r1, r2, r3, r4, rf⟩ := cells5 V6.out.res
      have rf0 := rf 0; have rf1 := rf 1; have rf2 := rf 2; have rf3 := rf 3; have rf4 := rf 4
      obtain ⟨z0, z1, z2, z3, z4, _⟩ := cells5 (put5_heap (a := .int .i64 2) (b := .bool false) (c := .string ⟨#[]⟩) (d := .slice none 0 0) (e := .slice none 0 0) V6.out.res)
      have FIN := Lib.hid (V6.out.fin hbl (.int .i64 2) (.bool false) (.string ⟨#[]⟩) (.slice none 0 0) (.slice none 0 0))
      have Z := Lib.hid (And.intro z0 (And.intro z1 (And.intro z2 (And.intro z3 z4))))
      clear z0 z1 z2 z3 z4 rf
      go_wp2_with fail
      obtain ⟨z0, z1, z2, z3, z4⟩ := Z.out
      refine bodyPost_ret (v := .agg #[.int .i64 2, .bool false, .string ⟨#[]⟩, .slice none 0 0, .slice none 0 0]) (by simp [results, Tryz.results77, go_sem, z0, z1, z2, z3, z4]) rfl ?_
      obtain ⟨f2, f3, f4⟩ := FIN.out
      exact RG.err HRD.out f3 ⟨_, _, rfl, JAt.plain (t := [])⟩ HX1.out hj2 f2
    | ok j2 =>
      obtain ⟨⟨rfl, k1⟩, k2⟩ := hgv.of_ok hw
      have hr := HRC.out
      rw [hw] at hr
      have V6 := Lib.hid (V3.out.move hbl k2 k1)
      have HRD := Lib.hid hr
      clear hr hw hgv k1 k2 HRC V3
      obtain ⟨r0, r1, r2, r3, r4, rf⟩ := cells5 V6.out.res
      have rf0 := rf 0; have rf1 := rf 1; have rf2 := rf 2; have rf3 := rf 3; have rf4 := rf 4
      obtain ⟨z0, z1, z2, z3, z4, _⟩ := cells5 (put5_heap (a := .int .i64 2) (b := .bool false) (c := .string ⟨#[]⟩) (d := .slice none 0 0) (e := .slice none 0 0) V6.out.res)
      have FIN := Lib.hid (V6.out.fin hbl (.int .i64 2) (.bool false) (.string ⟨#[]⟩) (.slice none 0 0) (.slice none 0 0))
      have Z := Lib.hid (And.intro z0 (And.intro z1 (And.intro z2 (And.intro z3 z4))))
      clear z0 z1 z2 z3 z4 rf
      go_wp2_with fail
      obtain ⟨z0, z1, z2, z3, z4⟩ := Z.out
      refine bodyPost_ret (v := .agg #[.int .i64 2, .bool false, .string ⟨#[]⟩, .slice none 0 0, .slice none 0 0]) (by simp [results, Tryz.results77, go_sem, z0, z1, z2, z3, z4]) rfl ?_
      obtain ⟨f2, f3, f4⟩ := FIN.out
      exact RG.ok HRD.out f3 ⟨_, rfl, JAt.plain (t := []), f2⟩
  have hr := HRB.out
  rw [if_neg h110, if_neg h116, if_neg h102] at hr
  have HRB := Lib.hid hr
  clear hr
  have n110 : ((c.toNat : Int) == 110) = false := u8ne (k := 110) h110
  have n116 : ((c.toNat : Int) == 116) = false := u8ne (k := 116) h116
  have n102 : ((c.toNat : Int) == 102) = false := u8ne (k := 102) h102
  clear h110 h116 h102
  by_cases h34 : c = 34
  · subst h34
    have hr := HRB.out
    rw [if_pos rfl] at hr
    have HRC := Lib.hid hr
    clear hr HRB HST n110 n116 n102
    go_wp2_with fail
    rw [← HW3.out]
    clear HW3 q1 q1f q2 qf2
    refine (text2_calls s p ((m + 1 : Nat) : Int) b _ V3.out.rd HC.out.symm hs).mono ?_
    intro e w6 hgv
    cases hw : Cx.text s.data.toList p with
    | error x =>
      obtain ⟨k2, rfl, hx1, j2, m2, hj2, k1⟩ := hgv.of_err hw
      have hr := HRC.out
      rw [hw] at hr
      have V6 := Lib.hid (V3.out.move hbl k2 k1)
      have HRD := Lib.hid hr; have HX1 := Lib.hid hx1
      clear hr hw hgv k1 k2 hx1 HRC V3
      obtain ⟨r0, r1, r2, r3, r4, rf⟩ := cells5 V6.out.res
      have rf0 := rf 0; have rf1 := rf 1; have rf2 := rf 2; have rf3 := rf 3; have rf4 := rf 4
      obtain ⟨z0, z1, z2, z3, z4, _⟩ := cells5 (put5_heap (a := .int .i64 4) (b := .bool false) (c := .string ⟨#[]⟩) (d := .slice none 0 0) (e := .slice none 0 0) V6.out.res)
      have FIN := Lib.hid (V6.out.fin hbl (.int .i64 4) (.bool false) (.string ⟨#[]⟩) (.slice none 0 0) (.slice none 0 0))
      have Z := Lib.hid (And.intro z0 (And.intro z1 (And.intro z2 (And.intro z3 z4))))
      clear z0 z1 z2 z3 z4 rf
      go_wp2_with fail
      obtain ⟨z0, z1, z2, z3, z4⟩ := Z.out
      refine bodyPost_ret (v := .agg #[.int .i64 4, .bool false, .string ⟨#[]⟩, .slice none 0 0, .slice none 0 0]) (by simp [results, Tryz.results77, go_sem, z0, z1, z2, z3, z4]) rfl ?_
      obtain ⟨f2, f3, f4⟩ := FIN.out
      exact RG.err HRD.out f3 ⟨_, _, rfl, JAt.plain (t := [])⟩ HX1.out hj2 f2
    | ok a =>
      obtain ⟨t, j2⟩ := a
      obtain ⟨⟨rfl, k1⟩, k2⟩ := hgv.of_ok hw
      have hr := HRC.out
      rw [hw] at hr
      have V6 := Lib.hid (V3.out.move hbl k2 k1)
      have HRD := Lib.hid hr
      clear hr hw hgv k1 k2 HRC V3
      obtain ⟨r0, r1, r2, r3, r4, rf⟩ := cells5 V6.out.res
      have rf0 := rf 0; have rf1 := rf 1; have rf2 := rf 2; have rf3 := rf 3; have rf4 := rf 4
      obtain ⟨z0, z1, z2, z3, z4, _⟩ := cells5 (put5_heap (a := .int .i64 4) (b := .bool false) (c := .string ⟨t.toArray⟩) (d := .slice none 0 0) (e := .slice none 0 0) V6.out.res)
      have FIN := Lib.hid (V6.out.fin hbl (.int .i64 4) (.bool false) (.string ⟨t.toArray⟩) (.slice none 0 0) (.slice none 0 0))
      have Z := Lib.hid (And.intro z0 (And.intro z1 (And.intro z2 (And.intro z3 z4))))
      clear z0 z1 z2 z3 z4 rf
      go_wp2_with fail
      obtain ⟨z0, z1, z2, z3, z4⟩ := Z.out
      refine bodyPost_ret (v := .agg #[.int .i64 4, .bool false, .string ⟨t.toArray⟩, .slice none 0 0, .slice none 0 0]) (by simp [results, Tryz.results77, go_sem, z0, z1, z2, z3, z4]) rfl ?_
      obtain ⟨f2, f3, f4⟩ := FIN.out
      exact RG.ok HRD.out f3 ⟨_, rfl, JAt.plain (t := t), f2⟩
  have n34 : ((c.toNat : Int) == 34) = false := u8ne (k := 34) h34
  have hr := HRB.out
  rw [if_neg h34] at hr
  have HRB := Lib.hid hr
  clear hr h34
  by_cases hopen : c = 91 ∨ c = 123
  · have hr := HRB.out
    rw [if_pos hopen] at hr
    have HRE := Lib.hid hr
    clear hr HRB HST HC
    by_cases hdd : d = 20
    · have hr := HRE.out
      rw [if_pos hdd] at hr
      have HE := Lib.hid hr
      subst hdd
      have q1 := V3.out.rd.c1
      rw [HW3.out] at q1
      clear hr HRE
      rcases hopen with rfl | rfl
      all_goals
        go_wp2_with fail
        rw [← HW3.out]
        refine (fail_calls s p _ 0 16 p b _ V3.out.rd).mono ?_
        rintro e w6 ⟨rfl, k1, k2⟩
        have V6 := Lib.hid (V3.out.move hbl k2 k1)
        clear k1 k2
        obtain ⟨r0, r1, r2, r3, r4, rf⟩ := cells5 V6.out.res
        have rf0 := rf 0; have rf1 := rf 1; have rf2 := rf 2; have rf3 := rf 3; have rf4 := rf 4
        obtain ⟨z0, z1, z2, z3, z4, _⟩ := cells5 (put5_heap (a := .int .i64 0) (b := .bool false) (c := .string ⟨#[]⟩) (d := .slice none 0 0) (e := .slice none 0 0) V6.out.res)
        have FIN := Lib.hid (V6.out.fin hbl (.int .i64 0) (.bool false) (.string ⟨#[]⟩) (.slice none 0 0) (.slice none 0 0))
        have Z := Lib.hid (And.intro z0 (And.intro z1 (And.intro z2 (And.intro z3 z4))))
        clear z0 z1 z2 z3 z4 rf
        go_wp2_with fail
        obtain ⟨z0, z1, z2, z3, z4⟩ := Z.out
        refine bodyPost_ret (v := .agg #[.int .i64 0, .bool false, .string ⟨#[]⟩, .slice none 0 0, .slice none 0 0]) (by simp [results, Tryz.results77, go_sem, z0, z1, z2, z3, z4]) rfl ?_
        obtain ⟨f2, f3, f4⟩ := FIN.out
        exact RG.err HE.out f3 ⟨_, _, rfl, JAt.plain (k := 0) (is := false) (t := [])⟩ (show (16 : Nat) ≠ 0 by decide) hlp f2
    · have hr := HRE.out
      rw [if_neg hdd] at hr
      have HRF := Lib.hid hr
      have hd20 : ¬ (20 : Int) ≤ (d : Int) := by omega
      have HFI := Lib.hid (Cx.value_fine s.data.toList n (d + 1) (by omega))
      have hval : ∀ (w : World) (i' m : Nat), p < i' → R2 b s i' m 0 0 w → i' ≤ s.size → m ≤ 5000 → Calls Tryz.prog 77 #[.pointer (some ⟨b, 0, none⟩), .int .i64 ((d : Int) + 1)] w (RG (Cx.value s.data.toList n (d + 1) i' m) (JRet2 b s w) (JBad w) b s w) := by
        intro w' i' m' h1 h2 h4 h5
        have := IH.out (d + 1) w' i' m' (by omega) h2 h4 h5 (by omega)
        rw [show ((d + 1 : Nat) : Int) = (d : Int) + 1 by omega] at this
        exact this
      have HVA := Lib.hid hval
      obtain ⟨w5', hw5⟩ : ∃ w5', w5' = w4.setCell ⟨b, 1, none⟩ (.int .i64 ((p : Int) + 1)) := ⟨_, rfl⟩
      have hv5 : VJ b w.heap.size s w (p + 1) (m + 1 : Nat) 0 0 w5' := by
        rw [hw5]; exact V3.out.move hbl ((Mv.refl b w4).set (.inl rfl) _) (V3.out.rd.set1 _)
      rw [HW3.out] at hw5
      have V5 := Lib.hid hv5; have HW5 := Lib.hid hw5
      have q1b := V3.out.rd.c1; have q1c := V3.out.rd.fr 1
      rw [HW3.out] at q1b q1c
      clear hr HRE hdd hval IH hv5 hw5
      rcases hopen with rfl | rfl
      · go_wp2_with fail
        rw [← HW5.out]
        refine (show Calls Tryz.prog 127 #[.pointer (some ⟨b, 0, none⟩), .int .i64 ((d : Int) + 1)] w5' _ from list2_calls s p (m + 1) b ((d : Int) + 1) _ d HFI.out HVA.out w5' V5.out.rd hplt (by omega) hs).mono ?_
        intro e w6 hgv
        obtain ⟨k, cs, j2, m2, y, qq, rfl, kj, km, kr, hcase⟩ := hgv.both
        obtain ⟨c0, c1, c2, c3, c4, rfl⟩ := five kj.length
        obtain ⟨x0, x1, x2, x3, x4, x5, x6, x7, x8, rfl, rfl, rfl, rfl, rfl⟩ := five_shape kj
        have V6 := Lib.hid (V5.out.move hbl km kr)
        have hB5 : w.heap.size < w5'.heap.size := heap_lt V5.out.res
        have KJ := Lib.hid kj; have HCS := Lib.hid hcase
        clear kj km kr hcase hgv V5 HW5
        obtain ⟨r0, r1, r2, r3, r4, rf⟩ := cells5 V6.out.res
        have rf0 := rf 0; have rf1 := rf 1; have rf2 := rf 2; have rf3 := rf 3; have rf4 := rf 4
        obtain ⟨z0, z1, z2, z3, z4, _⟩ := cells5 (put5_heap (a := .int .i64 x0) (b := .bool x1) (c := .string x2) (d := .slice x3 x4 x5) (e := .slice x6 x7 x8) V6.out.res)
        have FIN := Lib.hid (V6.out.fin' hbl hB5 KJ.out)
        have Z := Lib.hid (And.intro z0 (And.intro z1 (And.intro z2 (And.intro z3 z4))))
        clear z0 z1 z2 z3 z4 rf
        go_wp2_with fail
        obtain ⟨z0, z1, z2, z3, z4⟩ := Z.out
        refine bodyPost_ret (v := .agg #[.int .i64 x0, .bool x1, .string x2, .slice x3 x4 x5, .slice x6 x7 x8]) (by simp [results, Tryz.results77, go_sem, z0, z1, z2, z3, z4]) rfl ?_
        obtain ⟨f2, f3, f4⟩ := FIN.out
        have hr := HRF.out
        first | (simp only [show decide ((91 : UInt8) = 123) = false from rfl] at hr) | (rw [show decide True = true from rfl] at hr) | skip
        rcases HCS.out with ⟨hy0, hqq, n2, hm2, hv⟩ | ⟨hy1, hj2l, x, hv, hyx, hqx⟩
        · subst hy0 hqq hm2
          rw [hv] at hr
          exact RG.ok hr f4 ⟨_, rfl, f2, f3⟩
        · subst hyx hqx
          rw [hv] at hr
          exact RG.err (x := x) hr f4 ⟨_, _, rfl, f2⟩ (by omega) hj2l f3
      · go_wp2_with fail
        rw [← HW5.out]
        refine (show Calls Tryz.prog 128 #[.pointer (some ⟨b, 0, none⟩), .int .i64 ((d : Int) + 1)] w5' _ from object2_calls s p (m + 1) b ((d : Int) + 1) _ d HFI.out HVA.out w5' V5.out.rd hplt (by omega) hs).mono ?_
        intro e w6 hgv
        obtain ⟨k, cs, j2, m2, y, qq, rfl, kj, km, kr, hcase⟩ := hgv.both
        obtain ⟨c0, c1, c2, c3, c4, rfl⟩ := five kj.length
        obtain ⟨x0, x1, x2, x3, x4, x5, x6, x7, x8, rfl, rfl, rfl, rfl, rfl⟩ := five_shape kj
        have V6 := Lib.hid (V5.out.move hbl km kr)
        have hB5 : w.heap.size < w5'.heap.size := heap_lt V5.out.res
        have KJ := Lib.hid kj; have HCS := Lib.hid hcase
        clear kj km kr hcase hgv V5 HW5
        obtain ⟨r0, r1, r2, r3, r4, rf⟩ := cells5 V6.out.res
        have rf0 := rf 0; have rf1 := rf 1; have rf2 := rf 2; have rf3 := rf 3; have rf4 := rf 4
        obtain ⟨z0, z1, z2, z3, z4, _⟩ := cells5 (put5_heap (a := .int .i64 x0) (b := .bool x1) (c := .string x2) (d := .slice x3 x4 x5) (e := .slice x6 x7 x8) V6.out.res)
        have FIN := Lib.hid (V6.out.fin' hbl hB5 KJ.out)
        have Z := Lib.hid (And.intro z0 (And.intro z1 (And.intro z2 (And.intro z3 z4))))
        clear z0 z1 z2 z3 z4 rf
        go_wp2_with fail
        obtain ⟨z0, z1, z2, z3, z4⟩ := Z.out
        refine bodyPost_ret (v := .agg #[.int .i64 x0, .bool x1, .string x2, .slice x3 x4 x5, .slice x6 x7 x8]) (by simp [results, Tryz.results77, go_sem, z0, z1, z2, z3, z4]) rfl ?_
        obtain ⟨f2, f3, f4⟩ := FIN.out
        have hr := HRF.out
        first | (simp only [show decide ((123 : UInt8) = 123) = true from rfl] at hr) | (rw [show decide True = true from rfl] at hr) | skip
        rcases HCS.out with ⟨hy0, hqq, n2, hm2, hv⟩ | ⟨hy1, hj2l, x, hv, hyx, hqx⟩
        · subst hy0 hqq hm2
          rw [hv] at hr
          exact RG.ok hr f4 ⟨_, rfl, f2, f3⟩
        · subst hyx hqx
          rw [hv] at hr
          exact RG.err (x := x) hr f4 ⟨_, _, rfl, f2⟩ (by omega) hj2l f3
  · have n91 : ((c.toNat : Int) == 91) = false := u8ne (k := 91) (fun h => hopen (.inl h))
    have n123 : ((c.toNat : Int) == 123) = false := u8ne (k := 123) (fun h => hopen (.inr h))
    have hr := HRB.out
    rw [if_neg hopen] at hr
    have HRC := Lib.hid hr
    clear hr HRB HST HC hopen
    go_wp2_with fail
    rw [← HW3.out]
    clear HW3 q1 q1f q2 qf2
    refine (number2_calls s p ((m + 1 : Nat) : Int) b _ V3.out.rd hlp hs').mono ?_
    intro e w6 hgv
    cases hw : Cx.number s.data.toList p with
    | error x =>
      obtain ⟨k2, ⟨t, rfl⟩, hx1, j2, m2, hj2, k1⟩ := hgv.of_err hw
      have hr := HRC.out
      rw [hw] at hr
      have V6 := Lib.hid (V3.out.move hbl k2 k1)
      have HRD := Lib.hid hr; have HX1 := Lib.hid hx1
      clear hr hw hgv k1 k2 hx1 HRC V3
      obtain ⟨r0, r1, r2, r3, r4, rf⟩ := cells5 V6.out.res
      have rf0 := rf 0; have rf1 := rf 1; have rf2 := rf 2; have rf3 := rf 3; have rf4 := rf 4
      obtain ⟨z0, z1, z2, z3, z4, _⟩ := cells5 (put5_heap (a := .int .i64 3) (b := .bool false) (c := .string ⟨t.toArray⟩) (d := .slice none 0 0) (e := .slice none 0 0) V6.out.res)
      have FIN := Lib.hid (V6.out.fin hbl (.int .i64 3) (.bool false) (.string ⟨t.toArray⟩) (.slice none 0 0) (.slice none 0 0))
      have Z := Lib.hid (And.intro z0 (And.intro z1 (And.intro z2 (And.intro z3 z4))))
      clear z0 z1 z2 z3 z4 rf
      go_wp2_with fail
      obtain ⟨z0, z1, z2, z3, z4⟩ := Z.out
      refine bodyPost_ret (v := .agg #[.int .i64 3, .bool false, .string ⟨t.toArray⟩, .slice none 0 0, .slice none 0 0]) (by simp [results, Tryz.results77, go_sem, z0, z1, z2, z3, z4]) rfl ?_
      obtain ⟨f2, f3, f4⟩ := FIN.out
      exact RG.err HRD.out f3 ⟨_, _, rfl, JAt.plain (t := t)⟩ HX1.out hj2 f2
    | ok j2 =>
      obtain ⟨⟨rfl, k1⟩, k2⟩ := hgv.of_ok hw
      have hr := HRC.out
      rw [hw] at hr
      simp only at hr
      generalize (s.data.toList.drop p).take (j2 - p) = t at hr ⊢
      have V6 := Lib.hid (V3.out.move hbl k2 k1)
      have HRD := Lib.hid hr
      clear hr hw hgv k1 k2 HRC V3
      obtain ⟨r0, r1, r2, r3, r4, rf⟩ := cells5 V6.out.res
      have rf0 := rf 0; have rf1 := rf 1; have rf2 := rf 2; have rf3 := rf 3; have rf4 := rf 4
      obtain ⟨z0, z1, z2, z3, z4, _⟩ := cells5 (put5_heap (a := .int .i64 3) (b := .bool false) (c := .string ⟨t.toArray⟩) (d := .slice none 0 0) (e := .slice none 0 0) V6.out.res)
      have FIN := Lib.hid (V6.out.fin hbl (.int .i64 3) (.bool false) (.string ⟨t.toArray⟩) (.slice none 0 0) (.slice none 0 0))
      have Z := Lib.hid (And.intro z0 (And.intro z1 (And.intro z2 (And.intro z3 z4))))
      clear z0 z1 z2 z3 z4 rf
      go_wp2_with fail
      obtain ⟨z0, z1, z2, z3, z4⟩ := Z.out
      refine bodyPost_ret (v := .agg #[.int .i64 3, .bool false, .string ⟨t.toArray⟩, .slice none 0 0, .slice none 0 0]) (by simp [results, Tryz.results77, go_sem, z0, z1, z2, z3, z4]) rfl ?_
      obtain ⟨f2, f3, f4⟩ := FIN.out
      exact RG.ok HRD.out f3 ⟨_, rfl, JAt.plain (t := t), f2⟩
end Go.Proofs.YtejlddimokmgjaaGreatDoor
