/- JsonReads is proved: for every text the law returns true. Conditions: the package-level variables that the row lists hold what the program's text lays (the card ties them); as the form has it, no string, slice or map that came in takes more than 2^47 - 4096 bytes. -/
import Derived.Test.YtbdmepilmoomeaaGreatDoorMg1
import Derived.Test.YtbdmepilmoomeaaGreatDoorParse
import Derived.Test.YtbdmepilmoomeaaGreatDoorSh
import Derived.Test.YtbdmepilmoomeaaGreatDoorCl
import Derived.Test.YtbdmepilmoomeaaGreatDoorTie
import Derived.Test.YtbdmepilmoomeaaGreatDoorCards
namespace Go.Proofs.YtbdmepilmoomeaaGreatDoor
open Go.RowKit

theorem digit3_calls (c : UInt8) (w : World) : Calls Tryz.prog 39 #[.int .u8 c.toNat] w fun e w' => e = .returned (.bool (Cx.isDig c)) ∧ w' = w :=
  (digit2_calls c w).mono fun _ _ h => ⟨h.1, h.2.symm⟩
theorem starts_only {c : UInt8} (h : Cx.starts c = true) : c = 110 ∨ c = 116 ∨ c = 102 ∨ c = 34 ∨ c = 91 ∨ c = 123 ∨ c = 45 ∨ Cx.isDig c = true := by
  have := Cx.starts_mem.1 h
  simp only [List.mem_cons, List.not_mem_nil, or_false] at this
  rcases this with h | h | h | h | h | h | h | h | h | h | h | h | h | h | h | h | h <;> subst h <;> decide

/-- What a reader of values may lean on, and what its box holds. -/
structure VJ (b B : Nat) (s : ByteArray) (w0 : World) (j : Nat) (m e p : Int) (w : World) : Prop where
  base : B = w0.heap.size
  rd : R2 b s j m e p w
  mv : Mv b w0 w
  res : w.heap[B]? = some (.cells zeroJ 26 (0, 0))
theorem VJ.fresh {b : Nat} {s : ByteArray} {w : World} {j : Nat} {m e p : Int} (h : R2 b s j m e p w) : VJ b w.heap.size s w j m e p (w.alloc (.cells zeroJ 26)) :=
  ⟨rfl, h.alloc _, (Mv.refl b w).alloc _, heap_alloc_new w _⟩
theorem VJ.move {b B : Nat} {s : ByteArray} {w0 : World} {j j' : Nat} {m e p m' e' p' : Int} {w w' : World} (h : VJ b B s w0 j m e p w) (hb : b < B) (k : Mv b w w') (hrd : R2 b s j' m' e' p' w') : VJ b B s w0 j' m' e' p' w' :=
  ⟨h.base, hrd, h.mv.trans k, k.heap h.res (by omega)⟩
theorem VJ.drewN {b B : Nat} {s : ByteArray} {w0 : World} {j : Nat} {m e p : Int} {w : World} (h : VJ b B s w0 j m e p w) (n : Nat) : VJ b B s w0 j m e p (w.drewN n) := ⟨h.base, h.rd, h.mv.drewN n, h.res⟩
theorem VJ.fin {b B : Nat} {s : ByteArray} {w0 : World} {j : Nat} {m e p : Int} {w : World} (h : VJ b B s w0 j m e p w) (hb : b < B) (c0 c1 c2 c3 c4 : Value) :
    R2 b s j m e p (put5 w B c0 c1 c2 c3 c4) ∧ Mv b w0 (put5 w B c0 c1 c2 c3 c4) ∧ True := by
  have hB := h.base
  refine ⟨?_, put5_mv h.mv (by omega), trivial⟩
  unfold R2; rw [put5_other (by omega)]; exact h.rd
theorem VJ.fin' {b B : Nat} {s : ByteArray} {w0 wc : World} {j : Nat} {m e p : Int} {w : World} {v : Cx.J} {c0 c1 c2 c3 c4 : Value} (h : VJ b B s w0 j m e p w) (hb : b < B) (hc : B < wc.heap.size) (hv : JAt w (fun g => wc.heap.size ≤ g) v [c0, c1, c2, c3, c4]) :
    JAt (put5 w B c0 c1 c2 c3 c4) (fun g => w0.heap.size ≤ g) v [c0, c1, c2, c3, c4] ∧ R2 b s j m e p (put5 w B c0 c1 c2 c3 c4) ∧ Mv b w0 (put5 w B c0 c1 c2 c3 c4) := by
  have hB := h.base
  refine ⟨JAt.kept (by rw [put5_size]; exact Nat.le_refl _) (fun g hg _ => ⟨put5_other (by omega), by omega⟩) _ _ hv, ?_, put5_mv h.mv (by omega)⟩
  unfold R2; rw [put5_other (by omega)]; exact h.rd

set_option maxRecDepth 100000 in
set_option maxHeartbeats 4000000 in
theorem value2_calls (s : ByteArray) (b : Nat) (hs : s.size ≤ 100000) : ∀ (n d : Nat) (w : World) (i m : Nat), d ≤ 20 → R2 b s i m 0 0 w → i ≤ s.size → m ≤ 5000 → s.size < i + n →
    Calls Tryz.prog 27 #[.pointer (some ⟨b, 0, none⟩), .int .i64 d] w (RG (Cx.value s.data.toList n d i m) (JRet2 b s w) (JBad w) b s w) := by
  have hs' : s.size ≤ maxLen := by unfold maxLen; omega
  intro n
  induction n with
  | zero => intro d w i m _ _ _ _ h; omega
  | succ n ih =>
  intro d w i m hd h hi hm hn
  have hbl := h.lt
  have IH := Lib.hid ih; clear ih
  obtain ⟨RES, hRES⟩ : ∃ RES, RES = Cx.value s.data.toList (n + 1) d i m := ⟨_, rfl⟩
  rw [← hRES]
  unfold Cx.value at hRES
  simp only at hRES
  have V1 := Lib.hid (VJ.fresh h)
  have HR := Lib.hid hRES
  clear hRES h
  go_enter Tryz.func27, Tryz.ntmps27
  go_wp2_with fail
  refine (blanks2_calls s i m 0 0 b _ V1.out.rd hi hs').mono ?_
  rintro e w2 ⟨rfl, k1, k2⟩
  have hv2 := V1.out.move hbl k2 k1
  have hlp : Cx.skipB s.data.toList i ≤ s.size := Cx.skipB_len (s := s.data.toList) (show i ≤ s.data.toList.length from hi)
  have hip := Cx.skipB_le (s := s.data.toList) (i := i)
  have hr := HR.out
  generalize hp : Cx.skipB s.data.toList i = p at hv2 hlp hip hr ⊢
  have V1 := Lib.hid hv2; have HR := Lib.hid hr
  clear k1 k2 hv2 hp hr
  go_wp2_with fail
  refine (next_mv s p m 0 0 b _ V1.out.rd hs').mono ?_
  rintro e w3 ⟨rfl, k1, k2⟩
  have V2 := Lib.hid (V1.out.move hbl k2 k1)
  have c0 := k1.c0; have c1 := k1.c1
  clear k1 k2 V1
  obtain ⟨c, hc⟩ : ∃ c, c = Cx.peek s.data.toList p := ⟨_, rfl⟩
  rw [← hc]
  have hr := HR.out
  rw [← hc] at hr
  have HR := Lib.hid hr; have HC := Lib.hid hc
  have hc0 : s.size ≤ p → c = 0 := fun h => by rw [hc]; exact Cx.peek_end h
  have HC0 := Lib.hid hc0
  clear hr hc hc0
  go_upto_region 3 with fail
  go_cut [6] (fun x wr => x = .bool (Cx.starts c) ∧ Hid (VJ b w.heap.size s w p m 0 0 wr))
  case first =>
    rcases Nat.lt_or_ge p s.size with hlt | hge
    rotate_left
    · have h0 := HC0.out hge
      subst h0
      have hd : decide (p < s.size) = false := by simp; omega
      go_wp2_with fail
      go_quiet ((go_at_call 39; exact Calls.quiet_of_same (digit3_calls _ _)))
      go_wp2_with fail
      go_meet
      case rel => exact ⟨rfl, Lib.hid (V2.out.drewN _)⟩
    have hltI : (p : Int) < (s.size : Int) := by omega
    by_cases h110 : c = 110
    · subst h110
      go_wp2_with fail
      go_quiet ((go_at_call 39; exact Calls.quiet_of_same (digit3_calls _ _)))
      go_wp2_with fail
      go_meet
      case rel => exact ⟨rfl, Lib.hid (V2.out.drewN _)⟩
    have n110 : ((c.toNat : Int) == 110) = false := u8ne (k := 110) h110
    by_cases h116 : c = 116
    · subst h116
      go_wp2_with fail
      go_quiet ((go_at_call 39; exact Calls.quiet_of_same (digit3_calls _ _)))
      go_wp2_with fail
      go_meet
      case rel => exact ⟨rfl, Lib.hid (V2.out.drewN _)⟩
    have n116 : ((c.toNat : Int) == 116) = false := u8ne (k := 116) h116
    by_cases h102 : c = 102
    · subst h102
      go_wp2_with fail
      go_quiet ((go_at_call 39; exact Calls.quiet_of_same (digit3_calls _ _)))
      go_wp2_with fail
      go_meet
      case rel => exact ⟨rfl, Lib.hid (V2.out.drewN _)⟩
    have n102 : ((c.toNat : Int) == 102) = false := u8ne (k := 102) h102
    by_cases h34 : c = 34
    · subst h34
      go_wp2_with fail
      go_quiet ((go_at_call 39; exact Calls.quiet_of_same (digit3_calls _ _)))
      go_wp2_with fail
      go_meet
      case rel => exact ⟨rfl, Lib.hid (V2.out.drewN _)⟩
    have n34 : ((c.toNat : Int) == 34) = false := u8ne (k := 34) h34
    by_cases h91 : c = 91
    · subst h91
      go_wp2_with fail
      go_quiet ((go_at_call 39; exact Calls.quiet_of_same (digit3_calls _ _)))
      go_wp2_with fail
      go_meet
      case rel => exact ⟨rfl, Lib.hid (V2.out.drewN _)⟩
    have n91 : ((c.toNat : Int) == 91) = false := u8ne (k := 91) h91
    by_cases h123 : c = 123
    · subst h123
      go_wp2_with fail
      go_quiet ((go_at_call 39; exact Calls.quiet_of_same (digit3_calls _ _)))
      go_wp2_with fail
      go_meet
      case rel => exact ⟨rfl, Lib.hid (V2.out.drewN _)⟩
    have n123 : ((c.toNat : Int) == 123) = false := u8ne (k := 123) h123
    by_cases h45 : c = 45
    · subst h45
      go_wp2_with fail
      go_quiet ((go_at_call 39; exact Calls.quiet_of_same (digit3_calls _ _)))
      go_wp2_with fail
      go_meet
      case rel => exact ⟨rfl, Lib.hid (V2.out.drewN _)⟩
    have n45 : ((c.toNat : Int) == 45) = false := u8ne (k := 45) h45
    cases hd : Cx.isDig c with
    | true =>
      have hst : Cx.starts c = true := Cx.starts_dig hd
      have HD := Lib.hid hd; have HST := Lib.hid hst
      clear h110 h116 h102 h34 h91 h123 h45 hd hst
      go_wp2_with fail
      go_quiet ((go_at_call 39; exact Calls.quiet_of_same (digit3_calls _ _)))
      go_wp2_with fail
      go_meet
      case rel => exact ⟨by simp [HD.out, HST.out], Lib.hid (V2.out.drewN _)⟩
    | false =>
      have hst : Cx.starts c = false := by
        cases hx : Cx.starts c with
        | false => rfl
        | true =>
          exfalso
          have := starts_only hx
          simp [h110, h116, h102, h34, h91, h123, h45, hd] at this
      have HD := Lib.hid hd; have HST := Lib.hid hst
      clear h110 h116 h102 h34 h91 h123 h45 hd hst
      go_wp2_with fail
      go_quiet ((go_at_call 39; exact Calls.quiet_of_same (digit3_calls _ _)))
      go_wp2_with fail
      go_meet
      case rel => exact ⟨by simp [HD.out, HST.out], Lib.hid (V2.out.drewN _)⟩
  case rest =>
  obtain ⟨rfl, V3⟩ := hcut
  clear V2 c0 c1
  have hr := HR.out
  cases hst : Cx.starts c with
  | false =>
    rw [if_pos hst] at hr
    have HE := Lib.hid hr
    have q1 := V3.out.rd.c1
    clear hr HR hst
    go_wp2_with fail
    refine (fail_calls s p m 0 7 p b _ V3.out.rd).mono ?_
    rintro e w6 ⟨rfl, k1, k2⟩
    have V6 := Lib.hid (V3.out.move hbl k2 k1)
    clear k1 k2 V3 q1
    obtain ⟨r0, r1, r2, r3, r4, rf⟩ := cells5 V6.out.res
    have rf0 := rf 0; have rf1 := rf 1; have rf2 := rf 2; have rf3 := rf 3; have rf4 := rf 4
    obtain ⟨z0, z1, z2, z3, z4, _⟩ := cells5 (put5_heap (a := .int .i64 0) (b := .bool false) (c := .string ⟨#[]⟩) (d := .slice none 0 0) (e := .slice none 0 0) V6.out.res)
    have FIN := Lib.hid (V6.out.fin hbl (.int .i64 0) (.bool false) (.string ⟨#[]⟩) (.slice none 0 0) (.slice none 0 0))
    have Z := Lib.hid (And.intro z0 (And.intro z1 (And.intro z2 (And.intro z3 z4))))
    clear z0 z1 z2 z3 z4 rf
    go_wp2_with fail
    obtain ⟨z0, z1, z2, z3, z4⟩ := Z.out
    refine bodyPost_ret (v := .agg #[.int .i64 0, .bool false, .string ⟨#[]⟩, .slice none 0 0, .slice none 0 0]) (by simp [results, Tryz.results27, go_sem, z0, z1, z2, z3, z4]) rfl ?_
    obtain ⟨f2, f3, f4⟩ := FIN.out
    exact RG.err HE.out f3 ⟨_, _, rfl, JAt.plain (k := 0) (is := false) (t := [])⟩ (show (7 : Nat) ≠ 0 by decide) hlp f2
  | true =>
  have hplt : p < s.size := by
    rcases Nat.lt_or_ge p s.size with g | g
    · exact g
    · rw [HC0.out g] at hst; exact absurd hst (by decide)
  rw [if_neg (by rw [hst]; decide)] at hr
  have HST := Lib.hid hst
  clear hst HR HC0
  by_cases hmany : 5000 ≤ m
  · rw [if_pos hmany] at hr
    have HE := Lib.hid hr
    have q1 := V3.out.rd.c1; have q2 := V3.out.rd.c2
    have hmI : (5000 : Int) ≤ (m : Int) := by omega
    clear hr hmany
    go_wp2_with fail
    refine (fail_calls s p m 0 6 p b _ V3.out.rd).mono ?_
    rintro e w6 ⟨rfl, k1, k2⟩
    have V6 := Lib.hid (V3.out.move hbl k2 k1)
    clear k1 k2 V3 q1 q2
    obtain ⟨r0, r1, r2, r3, r4, rf⟩ := cells5 V6.out.res
    have rf0 := rf 0; have rf1 := rf 1; have rf2 := rf 2; have rf3 := rf 3; have rf4 := rf 4
    obtain ⟨z0, z1, z2, z3, z4, _⟩ := cells5 (put5_heap (a := .int .i64 0) (b := .bool false) (c := .string ⟨#[]⟩) (d := .slice none 0 0) (e := .slice none 0 0) V6.out.res)
    have FIN := Lib.hid (V6.out.fin hbl (.int .i64 0) (.bool false) (.string ⟨#[]⟩) (.slice none 0 0) (.slice none 0 0))
    have Z := Lib.hid (And.intro z0 (And.intro z1 (And.intro z2 (And.intro z3 z4))))
    clear z0 z1 z2 z3 z4 rf
    go_wp2_with fail
    obtain ⟨z0, z1, z2, z3, z4⟩ := Z.out
    refine bodyPost_ret (v := .agg #[.int .i64 0, .bool false, .string ⟨#[]⟩, .slice none 0 0, .slice none 0 0]) (by simp [results, Tryz.results27, go_sem, z0, z1, z2, z3, z4]) rfl ?_
    obtain ⟨f2, f3, f4⟩ := FIN.out
    exact RG.err HE.out f3 ⟨_, _, rfl, JAt.plain (k := 0) (is := false) (t := [])⟩ (show (6 : Nat) ≠ 0 by decide) hlp f2
  rw [if_neg hmany] at hr
  have HRB := Lib.hid hr
  have hmI : ¬ (5000 : Int) ≤ (m : Int) := by omega
  have q2 := V3.out.rd.c2; have qf2 := V3.out.rd.fr 2
  clear hr hmany
  obtain ⟨w4, hw4⟩ : ∃ w4, w4 = wc.setCell ⟨b, 2, none⟩ (.int .i64 ((m : Int) + 1)) := ⟨_, rfl⟩
  have hv4 : VJ b w.heap.size s w p (m + 1 : Nat) 0 0 w4 := by
    rw [hw4]; exact V3.out.move hbl ((Mv.refl b wc).set (.inl rfl) _) (V3.out.rd.set2 _)
  have q1 := V3.out.rd.c1; have q1f := V3.out.rd.fr 1
  have V3 := Lib.hid hv4; have HW3 := Lib.hid hw4
  clear hv4 hw4
  have HNC : Hid (c.toNat < 256) := Lib.hid c.toNat_lt
  by_cases h110 : c = 110
  · subst h110
    have hr := HRB.out
    rw [if_pos rfl] at hr
    have HRC := Lib.hid hr
    clear hr HRB HST HC
    go_wp2_with fail
    rw [← HW3.out]
    clear HW3 q1 q1f q2 qf2
    refine (word2_calls s p ((m + 1 : Nat) : Int) b ⟨#[110,117,108,108]⟩ _ V3.out.rd hlp hs' (by decide) (by decide)).mono ?_
    intro e w6 hgv
    cases hw : Cx.word s.data.toList [110,117,108,108] p with
    | error x =>
      obtain ⟨k2, rfl, hx1, j2, m2, hj2, k1⟩ := hgv.of_err hw
      have hr := HRC.out
      rw [hw] at hr
      have V6 := Lib.hid (V3.out.move hbl k2 k1)
      have HRD := Lib.hid hr; have HX1 := Lib.hid hx1
      clear hr hw hgv k1 k2 hx1 HRC V3
      obtain ⟨r0, r1, r2, r3, r4, rf⟩ := cells5 V6.out.res
      have rf0 := rf 0; have rf1 := rf 1; have rf2 := rf 2; have rf3 := rf 3; have rf4 := rf 4
      obtain ⟨z0, z1, z2, z3, z4, _⟩ := cells5 (put5_heap (a := .int .i64 1) (b := .bool false) (c := .string ⟨#[]⟩) (d := .slice none 0 0) (e := .slice none 0 0) V6.out.res)
      have FIN := Lib.hid (V6.out.fin hbl (.int .i64 1) (.bool false) (.string ⟨#[]⟩) (.slice none 0 0) (.slice none 0 0))
      have Z := Lib.hid (And.intro z0 (And.intro z1 (And.intro z2 (And.intro z3 z4))))
      clear z0 z1 z2 z3 z4 rf
      go_wp2_with fail
      obtain ⟨z0, z1, z2, z3, z4⟩ := Z.out
      refine bodyPost_ret (v := .agg #[.int .i64 1, .bool false, .string ⟨#[]⟩, .slice none 0 0, .slice none 0 0]) (by simp [results, Tryz.results27, go_sem, z0, z1, z2, z3, z4]) rfl ?_
      obtain ⟨f2, f3, f4⟩ := FIN.out
      exact RG.err HRD.out f3 ⟨_, _, rfl, JAt.plain (t := [])⟩ HX1.out hj2 f2
    | ok j2 =>
      obtain ⟨⟨rfl, k1⟩, k2⟩ := hgv.of_ok hw
      have hr := HRC.out
      rw [hw] at hr
      have V6 := Lib.hid (V3.out.move hbl k2 k1)
      have HRD := Lib.hid hr
      clear hr hw hgv k1 k2 HRC V3
      obtain ⟨r0, r1, r2, r3, r4, rf⟩ := cells5 V6.out.res
      have rf0 := rf 0; have rf1 := rf 1; have rf2 := rf 2; have rf3 := rf 3; have rf4 := rf 4
      obtain ⟨z0, z1, z2, z3, z4, _⟩ := cells5 (put5_heap (a := .int .i64 1) (b := .bool false) (c := .string ⟨#[]⟩) (d := .slice none 0 0) (e := .slice none 0 0) V6.out.res)
      have FIN := Lib.hid (V6.out.fin hbl (.int .i64 1) (.bool false) (.string ⟨#[]⟩) (.slice none 0 0) (.slice none 0 0))
      have Z := Lib.hid (And.intro z0 (And.intro z1 (And.intro z2 (And.intro z3 z4))))
      clear z0 z1 z2 z3 z4 rf
      go_wp2_with fail
      obtain ⟨z0, z1, z2, z3, z4⟩ := Z.out
      refine bodyPost_ret (v := .agg #[.int .i64 1, .bool false, .string ⟨#[]⟩, .slice none 0 0, .slice none 0 0]) (by simp [results, Tryz.results27, go_sem, z0, z1, z2, z3, z4]) rfl ?_
      obtain ⟨f2, f3, f4⟩ := FIN.out
      exact RG.ok HRD.out f3 ⟨_, rfl, JAt.plain (t := []), f2⟩
  by_cases h116 : c = 116
  · subst h116
    have hr := HRB.out
    rw [if_neg (by decide), if_pos rfl] at hr
    have HRC := Lib.hid hr
    clear hr HRB HST HC h110
    go_wp2_with fail
    rw [← HW3.out]
    clear HW3 q1 q1f q2 qf2
    refine (word2_calls s p ((m + 1 : Nat) : Int) b ⟨#[116,114,117,101]⟩ _ V3.out.rd hlp hs' (by decide) (by decide)).mono ?_
    intro e w6 hgv
    cases hw : Cx.word s.data.toList [116,114,117,101] p with
    | error x =>
      obtain ⟨k2, rfl, hx1, j2, m2, hj2, k1⟩ := hgv.of_err hw
      have hr := HRC.out
      rw [hw] at hr
      have V6 := Lib.hid (V3.out.move hbl k2 k1)
      have HRD := Lib.hid hr; have HX1 := Lib.hid hx1
      clear hr hw hgv k1 k2 hx1 HRC V3
      obtain ⟨r0, r1, r2, r3, r4, rf⟩ := cells5 V6.out.res
      have rf0 := rf 0; have rf1 := rf 1; have rf2 := rf 2; have rf3 := rf 3; have rf4 := rf 4
      obtain ⟨z0, z1, z2, z3, z4, _⟩ := cells5 (put5_heap (a := .int .i64 2) (b := .bool true) (c := .string ⟨#[]⟩) (d := .slice none 0 0) (e := .slice none 0 0) V6.out.res)
      have FIN := Lib.hid (V6.out.fin hbl (.int .i64 2) (.bool true) (.string ⟨#[]⟩) (.slice none 0 0) (.slice none 0 0))
      have Z := Lib.hid (And.intro z0 (And.intro z1 (And.intro z2 (And.intro z3 z4))))
      clear z0 z1 z2 z3 z4 rf
      go_wp2_with fail
      obtain ⟨z0, z1, z2, z3, z4⟩ := Z.out
      refine bodyPost_ret (v := .agg #[.int .i64 2, .bool true, .string ⟨#[]⟩, .slice none 0 0, .slice none 0 0]) (by simp [results, Tryz.results27, go_sem, z0, z1, z2, z3, z4]) rfl ?_
      obtain ⟨f2, f3, f4⟩ := FIN.out
      exact RG.err HRD.out f3 ⟨_, _, rfl, JAt.plain (t := [])⟩ HX1.out hj2 f2
    | ok j2 =>
      obtain ⟨⟨rfl, k1⟩, k2⟩ := hgv.of_ok hw
      have hr := HRC.out
      rw [hw] at hr
      have V6 := Lib.hid (V3.out.move hbl k2 k1)
      have HRD := Lib.hid hr
      clear hr hw hgv k1 k2 HRC V3
      obtain ⟨r0, r1, r2, r3, r4, rf⟩ := cells5 V6.out.res
      have rf0 := rf 0; have rf1 := rf 1; have rf2 := rf 2; have rf3 := rf 3; have rf4 := rf 4
      obtain ⟨z0, z1, z2, z3, z4, _⟩ := cells5 (put5_heap (a := .int .i64 2) (b := .bool true) (c := .string ⟨#[]⟩) (d := .slice none 0 0) (e := .slice none 0 0) V6.out.res)
      have FIN := Lib.hid (V6.out.fin hbl (.int .i64 2) (.bool true) (.string ⟨#[]⟩) (.slice none 0 0) (.slice none 0 0))
      have Z := Lib.hid (And.intro z0 (And.intro z1 (And.intro z2 (And.intro z3 z4))))
      clear z0 z1 z2 z3 z4 rf
      go_wp2_with fail
      obtain ⟨z0, z1, z2, z3, z4⟩ := Z.out
      refine bodyPost_ret (v := .agg #[.int .i64 2, .bool true, .string ⟨#[]⟩, .slice none 0 0, .slice none 0 0]) (by simp [results, Tryz.results27, go_sem, z0, z1, z2, z3, z4]) rfl ?_
      obtain ⟨f2, f3, f4⟩ := FIN.out
      exact RG.ok HRD.out f3 ⟨_, rfl, JAt.plain (t := []), f2⟩
  by_cases h102 : c = 102
  · subst h102
    have hr := HRB.out
    rw [if_neg (by decide), if_neg (by decide), if_pos rfl] at hr
    have HRC := Lib.hid hr
    clear hr HRB HST HC h110 h116
    go_wp2_with fail
    rw [← HW3.out]
    clear HW3 q1 q1f q2 qf2
    refine (word2_calls s p ((m + 1 : Nat) : Int) b ⟨#[102,97,108,115,101]⟩ _ V3.out.rd hlp hs' (by decide) (by decide)).mono ?_
    intro e w6 hgv
    cases hw : Cx.word s.data.toList [102,97,108,115,101] p with
    | error x =>
      obtain ⟨k2, rfl, hx1, j2, m2, hj2, k1⟩ := hgv.of_err hw
      have hr := HRC.out
      rw [hw] at hr
      have V6 := Lib.hid (V3.out.move hbl k2 k1)
      have HRD := Lib.hid hr; have HX1 := Lib.hid hx1
      clear hr hw hgv k1 k2 hx1 HRC V3
      obtain ⟨r0, r1, r2, r3, r4, rf⟩ := cells5 V6.out.res
      have rf0 := rf 0; have rf1 := rf 1; have rf2 := rf 2; have rf3 := rf 3; have rf4 := rf 4
      obtain ⟨z0, z1, z2, z3, z4, _⟩ := cells5 (put5_heap (a := .int .i64 2) (b := .bool false) (c := .string ⟨#[]⟩) (d := .slice none 0 0) (e := .slice none 0 0) V6.out.res)
      have FIN := Lib.hid (V6.out.fin hbl (.int .i64 2) (.bool false) (.string ⟨#[]⟩) (.slice none 0 0) (.slice none 0 0))
      have Z := Lib.hid (And.intro z0 (And.intro z1 (And.intro z2 (And.intro z3 z4))))
      clear z0 z1 z2 z3 z4 rf
      go_wp2_with fail
      obtain ⟨z0, z1, z2, z3, z4⟩ := Z.out
      refine bodyPost_ret (v := .agg #[.int .i64 2, .bool false, .string ⟨#[]⟩, .slice none 0 0, .slice none 0 0]) (by simp [results, Tryz.results27, go_sem, z0, z1, z2, z3, z4]) rfl ?_
      obtain ⟨f2, f3, f4⟩ := FIN.out
      exact RG.err HRD.out f3 ⟨_, _, rfl, JAt.plain (t := [])⟩ HX1.out hj2 f2
    | ok j2 =>
      obtain ⟨⟨rfl, k1⟩, k2⟩ := hgv.of_ok hw
      have hr := HRC.out
      rw [hw] at hr
      have V6 := Lib.hid (V3.out.move hbl k2 k1)
      have HRD := Lib.hid hr
      clear hr hw hgv k1 k2 HRC V3
      obtain ⟨r0, r1, r2, r3, r4, rf⟩ := cells5 V6.out.res
      have rf0 := rf 0; have rf1 := rf 1; have rf2 := rf 2; have rf3 := rf 3; have rf4 := rf 4
      obtain ⟨z0, z1, z2, z3, z4, _⟩ := cells5 (put5_heap (a := .int .i64 2) (b := .bool false) (c := .string ⟨#[]⟩) (d := .slice none 0 0) (e := .slice none 0 0) V6.out.res)
      have FIN := Lib.hid (V6.out.fin hbl (.int .i64 2) (.bool false) (.string ⟨#[]⟩) (.slice none 0 0) (.slice none 0 0))
      have Z := Lib.hid (And.intro z0 (And.intro z1 (And.intro z2 (And.intro z3 z4))))
      clear z0 z1 z2 z3 z4 rf
      go_wp2_with fail
      obtain ⟨z0, z1, z2, z3, z4⟩ := Z.out
      refine bodyPost_ret (v := .agg #[.int .i64 2, .bool false, .string ⟨#[]⟩, .slice none 0 0, .slice none 0 0]) (by simp [results, Tryz.results27, go_sem, z0, z1, z2, z3, z4]) rfl ?_
      obtain ⟨f2, f3, f4⟩ := FIN.out
      exact RG.ok HRD.out f3 ⟨_, rfl, JAt.plain (t := []), f2⟩
  have hr := HRB.out
  rw [if_neg h110, if_neg h116, if_neg h102] at hr
  have HRB := Lib.hid hr
  clear hr
  have n110 : ((c.toNat : Int) == 110) = false := u8ne (k := 110) h110
  have n116 : ((c.toNat : Int) == 116) = false := u8ne (k := 116) h116
  have n102 : ((c.toNat : Int) == 102) = false := u8ne (k := 102) h102
  clear h110 h116 h102
  by_cases h34 : c = 34
  · subst h34
    have hr := HRB.out
    rw [if_pos rfl] at hr
    have HRC := Lib.hid hr
    clear hr HRB HST n110 n116 n102
    go_wp2_with fail
    rw [← HW3.out]
    clear HW3 q1 q1f q2 qf2
    refine (text2_calls s p ((m + 1 : Nat) : Int) b _ V3.out.rd HC.out.symm hs).mono ?_
    intro e w6 hgv
    cases hw : Cx.text s.data.toList p with
    | error x =>
      obtain ⟨k2, rfl, hx1, j2, m2, hj2, k1⟩ := hgv.of_err hw
      have hr := HRC.out
      rw [hw] at hr
      have V6 := Lib.hid (V3.out.move hbl k2 k1)
      have HRD := Lib.hid hr; have HX1 := Lib.hid hx1
      clear hr hw hgv k1 k2 hx1 HRC V3
      obtain ⟨r0, r1, r2, r3, r4, rf⟩ := cells5 V6.out.res
      have rf0 := rf 0; have rf1 := rf 1; have rf2 := rf 2; have rf3 := rf 3; have rf4 := rf 4
      obtain ⟨z0, z1, z2, z3, z4, _⟩ := cells5 (put5_heap (a := .int .i64 4) (b := .bool false) (c := .string ⟨#[]⟩) (d := .slice none 0 0) (e := .slice none 0 0) V6.out.res)
      have FIN := Lib.hid (V6.out.fin hbl (.int .i64 4) (.bool false) (.string ⟨#[]⟩) (.slice none 0 0) (.slice none 0 0))
      have Z := Lib.hid (And.intro z0 (And.intro z1 (And.intro z2 (And.intro z3 z4))))
      clear z0 z1 z2 z3 z4 rf
      go_wp2_with fail
      obtain ⟨z0, z1, z2, z3, z4⟩ := Z.out
      refine bodyPost_ret (v := .agg #[.int .i64 4, .bool false, .string ⟨#[]⟩, .slice none 0 0, .slice none 0 0]) (by simp [results, Tryz.results27, go_sem, z0, z1, z2, z3, z4]) rfl ?_
      obtain ⟨f2, f3, f4⟩ := FIN.out
      exact RG.err HRD.out f3 ⟨_, _, rfl, JAt.plain (t := [])⟩ HX1.out hj2 f2
    | ok a =>
      obtain ⟨t, j2⟩ := a
      obtain ⟨⟨rfl, k1⟩, k2⟩ := hgv.of_ok hw
      have hr := HRC.out
      rw [hw] at hr
      have V6 := Lib.hid (V3.out.move hbl k2 k1)
      have HRD := Lib.hid hr
      clear hr hw hgv k1 k2 HRC V3
      obtain ⟨r0, r1, r2, r3, r4, rf⟩ := cells5 V6.out.res
      have rf0 := rf 0; have rf1 := rf 1; have rf2 := rf 2; have rf3 := rf 3; have rf4 := rf 4
      obtain ⟨z0, z1, z2, z3, z4, _⟩ := cells5 (put5_heap (a := .int .i64 4) (b := .bool false) (c := .string ⟨t.toArray⟩) (d := .slice none 0 0) (e := .slice none 0 0) V6.out.res)
      have FIN := Lib.hid (V6.out.fin hbl (.int .i64 4) (.bool false) (.string ⟨t.toArray⟩) (.slice none 0 0) (.slice none 0 0))
      have Z := Lib.hid (And.intro z0 (And.intro z1 (And.intro z2 (And.intro z3 z4))))
      clear z0 z1 z2 z3 z4 rf
      go_wp2_with fail
      obtain ⟨z0, z1, z2, z3, z4⟩ := Z.out
      refine bodyPost_ret (v := .agg #[.int .i64 4, .bool false, .string ⟨t.toArray⟩, .slice none 0 0, .slice none 0 0]) (by simp [results, Tryz.results27, go_sem, z0, z1, z2, z3, z4]) rfl ?_
      obtain ⟨f2, f3, f4⟩ := FIN.out
      exact RG.ok HRD.out f3 ⟨_, rfl, JAt.plain (t := t), f2⟩
  have n34 : ((c.toNat : Int) == 34) = false := u8ne (k := 34) h34
  have hr := HRB.out
  rw [if_neg h34] at hr
  have HRB := Lib.hid hr
  clear hr h34
  by_cases hopen : c = 91 ∨ c = 123
  · have hr := HRB.out
    rw [if_pos hopen] at hr
    have HRE := Lib.hid hr
    clear hr HRB HST HC
    by_cases hdd : d = 20
    · have hr := HRE.out
      rw [if_pos hdd] at hr
      have HE := Lib.hid hr
      subst hdd
      have q1 := V3.out.rd.c1
      rw [HW3.out] at q1
      clear hr HRE
      rcases hopen with rfl | rfl
      all_goals
        go_wp2_with fail
        rw [← HW3.out]
        refine (fail_calls s p _ 0 16 p b _ V3.out.rd).mono ?_
        rintro e w6 ⟨rfl, k1, k2⟩
        have V6 := Lib.hid (V3.out.move hbl k2 k1)
        clear k1 k2
        obtain ⟨r0, r1, r2, r3, r4, rf⟩ := cells5 V6.out.res
        have rf0 := rf 0; have rf1 := rf 1; have rf2 := rf 2; have rf3 := rf 3; have rf4 := rf 4
        obtain ⟨z0, z1, z2, z3, z4, _⟩ := cells5 (put5_heap (a := .int .i64 0) (b := .bool false) (c := .string ⟨#[]⟩) (d := .slice none 0 0) (e := .slice none 0 0) V6.out.res)
        have FIN := Lib.hid (V6.out.fin hbl (.int .i64 0) (.bool false) (.string ⟨#[]⟩) (.slice none 0 0) (.slice none 0 0))
        have Z := Lib.hid (And.intro z0 (And.intro z1 (And.intro z2 (And.intro z3 z4))))
        clear z0 z1 z2 z3 z4 rf
        go_wp2_with fail
        obtain ⟨z0, z1, z2, z3, z4⟩ := Z.out
        refine bodyPost_ret (v := .agg #[.int .i64 0, .bool false, .string ⟨#[]⟩, .slice none 0 0, .slice none 0 0]) (by simp [results, Tryz.results27, go_sem, z0, z1, z2, z3, z4]) rfl ?_
        obtain ⟨f2, f3, f4⟩ := FIN.out
        exact RG.err HE.out f3 ⟨_, _, rfl, JAt.plain (k := 0) (is := false) (t := [])⟩ (show (16 : Nat) ≠ 0 by decide) hlp f2
    · have hr := HRE.out
      rw [if_neg hdd] at hr
      have HRF := Lib.hid hr
      have hd20 : ¬ (20 : Int) ≤ (d : Int) := by omega
      have HFI := Lib.hid (Cx.value_fine s.data.toList n (d + 1) (by omega))
      have hval : ∀ (w : World) (i' m : Nat), p < i' → R2 b s i' m 0 0 w → i' ≤ s.size → m ≤ 5000 → Calls Tryz.prog 27 #[.pointer (some ⟨b, 0, none⟩), .int .i64 ((d : Int) + 1)] w (RG (Cx.value s.data.toList n (d + 1) i' m) (JRet2 b s w) (JBad w) b s w) := by
        intro w' i' m' h1 h2 h4 h5
        have := IH.out (d + 1) w' i' m' (by omega) h2 h4 h5 (by omega)
        rw [show ((d + 1 : Nat) : Int) = (d : Int) + 1 by omega] at this
        exact this
      have HVA := Lib.hid hval
      obtain ⟨w5', hw5⟩ : ∃ w5', w5' = w4.setCell ⟨b, 1, none⟩ (.int .i64 ((p : Int) + 1)) := ⟨_, rfl⟩
      have hv5 : VJ b w.heap.size s w (p + 1) (m + 1 : Nat) 0 0 w5' := by
        rw [hw5]; exact V3.out.move hbl ((Mv.refl b w4).set (.inl rfl) _) (V3.out.rd.set1 _)
      rw [HW3.out] at hw5
      have V5 := Lib.hid hv5; have HW5 := Lib.hid hw5
      have q1b := V3.out.rd.c1; have q1c := V3.out.rd.fr 1
      rw [HW3.out] at q1b q1c
      clear hr HRE hdd hval IH hv5 hw5
      rcases hopen with rfl | rfl
      · go_wp2_with fail
        rw [← HW5.out]
        refine (show Calls Tryz.prog 57 #[.pointer (some ⟨b, 0, none⟩), .int .i64 ((d : Int) + 1)] w5' _ from list2_calls s p (m + 1) b ((d : Int) + 1) _ d HFI.out HVA.out w5' V5.out.rd hplt (by omega) hs).mono ?_
        intro e w6 hgv
        obtain ⟨k, cs, j2, m2, y, qq, rfl, kj, km, kr, hcase⟩ := hgv.both
        obtain ⟨c0, c1, c2, c3, c4, rfl⟩ := five kj.length
        obtain ⟨x0, x1, x2, x3, x4, x5, x6, x7, x8, rfl, rfl, rfl, rfl, rfl⟩ := five_shape kj
        have V6 := Lib.hid (V5.out.move hbl km kr)
        have hB5 : w.heap.size < w5'.heap.size := heap_lt V5.out.res
        have KJ := Lib.hid kj; have HCS := Lib.hid hcase
        clear kj km kr hcase hgv V5 HW5
        obtain ⟨r0, r1, r2, r3, r4, rf⟩ := cells5 V6.out.res
        have rf0 := rf 0; have rf1 := rf 1; have rf2 := rf 2; have rf3 := rf 3; have rf4 := rf 4
        obtain ⟨z0, z1, z2, z3, z4, _⟩ := cells5 (put5_heap (a := .int .i64 x0) (b := .bool x1) (c := .string x2) (d := .slice x3 x4 x5) (e := .slice x6 x7 x8) V6.out.res)
        have FIN := Lib.hid (V6.out.fin' hbl hB5 KJ.out)
        have Z := Lib.hid (And.intro z0 (And.intro z1 (And.intro z2 (And.intro z3 z4))))
        clear z0 z1 z2 z3 z4 rf
        go_wp2_with fail
        obtain ⟨z0, z1, z2, z3, z4⟩ := Z.out
        refine bodyPost_ret (v := .agg #[.int .i64 x0, .bool x1, .string x2, .slice x3 x4 x5, .slice x6 x7 x8]) (by simp [results, Tryz.results27, go_sem, z0, z1, z2, z3, z4]) rfl ?_
        obtain ⟨f2, f3, f4⟩ := FIN.out
        have hr := HRF.out
        first | (simp only [show decide ((91 : UInt8) = 123) = false from rfl] at hr) | (rw [show decide True = true from rfl] at hr) | skip
        rcases HCS.out with ⟨hy0, hqq, n2, hm2, hv⟩ | ⟨hy1, hj2l, x, hv, hyx, hqx⟩
        · subst hy0 hqq hm2
          rw [hv] at hr
          exact RG.ok hr f4 ⟨_, rfl, f2, f3⟩
        · subst hyx hqx
          rw [hv] at hr
          exact RG.err (x := x) hr f4 ⟨_, _, rfl, f2⟩ (by omega) hj2l f3
      · go_wp2_with fail
        rw [← HW5.out]
        refine (show Calls Tryz.prog 58 #[.pointer (some ⟨b, 0, none⟩), .int .i64 ((d : Int) + 1)] w5' _ from object2_calls s p (m + 1) b ((d : Int) + 1) _ d HFI.out HVA.out w5' V5.out.rd hplt (by omega) hs).mono ?_
        intro e w6 hgv
        obtain ⟨k, cs, j2, m2, y, qq, rfl, kj, km, kr, hcase⟩ := hgv.both
        obtain ⟨c0, c1, c2, c3, c4, rfl⟩ := five kj.length
        obtain ⟨x0, x1, x2, x3, x4, x5, x6, x7, x8, rfl, rfl, rfl, rfl, rfl⟩ := five_shape kj
        have V6 := Lib.hid (V5.out.move hbl km kr)
        have hB5 : w.heap.size < w5'.heap.size := heap_lt V5.out.res
        have KJ := Lib.hid kj; have HCS := Lib.hid hcase
        clear kj km kr hcase hgv V5 HW5
        obtain ⟨r0, r1, r2, r3, r4, rf⟩ := cells5 V6.out.res
        have rf0 := rf 0; have rf1 := rf 1; have rf2 := rf 2; have rf3 := rf 3; have rf4 := rf 4
        obtain ⟨z0, z1, z2, z3, z4, _⟩ := cells5 (put5_heap (a := .int .i64 x0) (b := .bool x1) (c := .string x2) (d := .slice x3 x4 x5) (e := .slice x6 x7 x8) V6.out.res)
        have FIN := Lib.hid (V6.out.fin' hbl hB5 KJ.out)
        have Z := Lib.hid (And.intro z0 (And.intro z1 (And.intro z2 (And.intro z3 z4))))
        clear z0 z1 z2 z3 z4 rf
        go_wp2_with fail
        obtain ⟨z0, z1, z2, z3, z4⟩ := Z.out
        refine bodyPost_ret (v := .agg #[.int .i64 x0, .bool x1, .string x2, .slice x3 x4 x5, .slice x6 x7 x8]) (by simp [results, Tryz.results27, go_sem, z0, z1, z2, z3, z4]) rfl ?_
        obtain ⟨f2, f3, f4⟩ := FIN.out
        have hr := HRF.out
        first | (simp only [show decide ((123 : UInt8) = 123) = true from rfl] at hr) | (rw [show decide True = true from rfl] at hr) | skip
        rcases HCS.out with ⟨hy0, hqq, n2, hm2, hv⟩ | ⟨hy1, hj2l, x, hv, hyx, hqx⟩
        · subst hy0 hqq hm2
          rw [hv] at hr
          exact RG.ok hr f4 ⟨_, rfl, f2, f3⟩
        · subst hyx hqx
          rw [hv] at hr
          exact RG.err (x := x) hr f4 ⟨_, _, rfl, f2⟩ (by omega) hj2l f3
  · have n91 : ((c.toNat : Int) == 91) = false := u8ne (k := 91) (fun h => hopen (.inl h))
    have n123 : ((c.toNat : Int) == 123) = false := u8ne (k := 123) (fun h => hopen (.inr h))
    have hr := HRB.out
    rw [if_neg hopen] at hr
    have HRC := Lib.hid hr
    clear hr HRB HST HC hopen
    go_wp2_with fail
    rw [← HW3.out]
    clear HW3 q1 q1f q2 qf2
    refine (number2_calls s p ((m + 1 : Nat) : Int) b _ V3.out.rd hlp hs').mono ?_
    intro e w6 hgv
    cases hw : Cx.number s.data.toList p with
    | error x =>
      obtain ⟨k2, ⟨t, rfl⟩, hx1, j2, m2, hj2, k1⟩ := hgv.of_err hw
      have hr := HRC.out
      rw [hw] at hr
      have V6 := Lib.hid (V3.out.move hbl k2 k1)
      have HRD := Lib.hid hr; have HX1 := Lib.hid hx1
      clear hr hw hgv k1 k2 hx1 HRC V3
      obtain ⟨r0, r1, r2, r3, r4, rf⟩ := cells5 V6.out.res
      have rf0 := rf 0; have rf1 := rf 1; have rf2 := rf 2; have rf3 := rf 3; have rf4 := rf 4
      obtain ⟨z0, z1, z2, z3, z4, _⟩ := cells5 (put5_heap (a := .int .i64 3) (b := .bool false) (c := .string ⟨t.toArray⟩) (d := .slice none 0 0) (e := .slice none 0 0) V6.out.res)
      have FIN := Lib.hid (V6.out.fin hbl (.int .i64 3) (.bool false) (.string ⟨t.toArray⟩) (.slice none 0 0) (.slice none 0 0))
      have Z := Lib.hid (And.intro z0 (And.intro z1 (And.intro z2 (And.intro z3 z4))))
      clear z0 z1 z2 z3 z4 rf
      go_wp2_with fail
      obtain ⟨z0, z1, z2, z3, z4⟩ := Z.out
      refine bodyPost_ret (v := .agg #[.int .i64 3, .bool false, .string ⟨t.toArray⟩, .slice none 0 0, .slice none 0 0]) (by simp [results, Tryz.results27, go_sem, z0, z1, z2, z3, z4]) rfl ?_
      obtain ⟨f2, f3, f4⟩ := FIN.out
      exact RG.err HRD.out f3 ⟨_, _, rfl, JAt.plain (t := t)⟩ HX1.out hj2 f2
    | ok j2 =>
      obtain ⟨⟨rfl, k1⟩, k2⟩ := hgv.of_ok hw
      have hr := HRC.out
      rw [hw] at hr
      simp only at hr
      generalize (s.data.toList.drop p).take (j2 - p) = t at hr ⊢
      have V6 := Lib.hid (V3.out.move hbl k2 k1)
      have HRD := Lib.hid hr
      clear hr hw hgv k1 k2 HRC V3
      obtain ⟨r0, r1, r2, r3, r4, rf⟩ := cells5 V6.out.res
      have rf0 := rf 0; have rf1 := rf 1; have rf2 := rf 2; have rf3 := rf 3; have rf4 := rf 4
      obtain ⟨z0, z1, z2, z3, z4, _⟩ := cells5 (put5_heap (a := .int .i64 3) (b := .bool false) (c := .string ⟨t.toArray⟩) (d := .slice none 0 0) (e := .slice none 0 0) V6.out.res)
      have FIN := Lib.hid (V6.out.fin hbl (.int .i64 3) (.bool false) (.string ⟨t.toArray⟩) (.slice none 0 0) (.slice none 0 0))
      have Z := Lib.hid (And.intro z0 (And.intro z1 (And.intro z2 (And.intro z3 z4))))
      clear z0 z1 z2 z3 z4 rf
      go_wp2_with fail
      obtain ⟨z0, z1, z2, z3, z4⟩ := Z.out
      refine bodyPost_ret (v := .agg #[.int .i64 3, .bool false, .string ⟨t.toArray⟩, .slice none 0 0, .slice none 0 0]) (by simp [results, Tryz.results27, go_sem, z0, z1, z2, z3, z4]) rfl ?_
      obtain ⟨f2, f3, f4⟩ := FIN.out
      exact RG.ok HRD.out f3 ⟨_, rfl, JAt.plain (t := t), f2⟩
end Go.Proofs.YtbdmepilmoomeaaGreatDoor

namespace Go.Proofs.YtbdmepilmoomeaaGreatDoor
open Go.RowKit

def pT (r : Cx.Res Cx.J) : Cx.J × Nat × Nat := match r with | .ok v => (v, 0, 0) | .error (e, p) => (.mk 0 false [] [] [], e, p)
/-- While the answer's Parse runs: the result's box at B, the reader at B + 1. -/
structure QJ (B : Nat) (s : ByteArray) (w0 : World) (j : Nat) (m e p : Int) (w : World) : Prop where
  base : B = w0.heap.size
  rd : R2 (B + 1) s j m e p w
  bl : Below B w0 w
  res : w.heap[B]? = some (.cells zeroJ 26 (0, 0))
theorem QJ.move {B : Nat} {s : ByteArray} {w0 : World} {j j' : Nat} {m e p m' e' p' : Int} {w w' : World} (h : QJ B s w0 j m e p w) (k : Mv (B + 1) w w') (hrd : R2 (B + 1) s j' m' e' p' w') : QJ B s w0 j' m' e' p' w' :=
  ⟨h.base, hrd, Mv.to_below h.bl k (by omega) (by have := heap_lt h.res; omega), k.heap h.res (by omega)⟩
theorem QJ.fin {B : Nat} {s : ByteArray} {w0 : World} {j : Nat} {m e p : Int} {w : World} (h : QJ B s w0 j m e p w) (c0 c1 c2 c3 c4 : Value) : Below w0.heap.size w0 (put5 w B c0 c1 c2 c3 c4) := by
  have hB := h.base
  subst hB
  exact ((((h.bl.setCell (p := ⟨w0.heap.size, 0, none⟩) (Nat.le_refl _) _).setCell (p := ⟨w0.heap.size, 1, none⟩) (Nat.le_refl _) _).setCell (p := ⟨w0.heap.size, 2, none⟩) (Nat.le_refl _) _).setCell (p := ⟨w0.heap.size, 3, none⟩) (Nat.le_refl _) _).setCell (p := ⟨w0.heap.size, 4, none⟩) (Nat.le_refl _) _
theorem QJ.fresh (s : ByteArray) (w : World) : QJ w.heap.size s w 0 0 0 0 ((w.alloc (.cells zeroJ 26)).alloc (.cells #[.string s, .int .i64 0, .int .i64 0, .int .i64 0, .int .i64 0] 54)) :=
  ⟨rfl, by
    have := heap_alloc_new (w.alloc (.cells zeroJ 26)) (.cells #[.string s, .int .i64 0, .int .i64 0, .int .i64 0, .int .i64 0] 54)
    unfold R2; simpa using this, ((Below.refl _ w).alloc (Nat.le_refl _) _).alloc (by simp) _, by rw [Below.heap_alloc _ _ _ (by simp)]; exact heap_alloc_new w _⟩

set_option maxRecDepth 100000 in
set_option maxHeartbeats 4000000 in
theorem refParse_calls (s : ByteArray) (w : World) (hmax : s.size ≤ maxLen) : Calls Tryz.prog 8 #[.string s] w (PRet s w) := by
  unfold maxLen at hmax
  by_cases hlong : 100000 < s.size
  · have hl : (100000 : Int) < (s.size : Int) := by omega
    have hr : parseT s.data.toList = (.mk 0 false [] [] [], 5, 0) := by
      unfold parseT Cx.parse; rw [if_pos (show 100000 < s.data.toList.length by exact hlong)]
    have HR := Lib.hid hr
    obtain ⟨r0, r1, r2, r3, r4, rf⟩ := cells5 (heap_alloc_new w (.cells #[.int .i64 0, .bool false, .string ⟨#[]⟩, .slice none 0 0, .slice none 0 0] 26))
    have rf0 := rf 0; have rf1 := rf 1; have rf2 := rf 2; have rf3 := rf 3; have rf4 := rf 4
    clear hr hlong rf
    go_enter Tryz.func8, Tryz.ntmps8
    go_wp2_with fail
    refine bodyPost_ret (v := .tuple #[.agg #[.int .i64 0, .bool false, .string ⟨#[]⟩, .slice none 0 0, .slice none 0 0], .int .i64 5, .int .i64 0]) (by simp [results, Tryz.results8, go_sem, r0, r1, r2, r3, r4]) rfl ?_
    unfold PRet
    rw [HR.out]
    exact ⟨[.int .i64 0, .bool false, .string ⟨#[]⟩, .slice none 0 0, .slice none 0 0], rfl, JAt.plain, (Below.refl _ w).alloc (Nat.le_refl _) _⟩
  · have hs : s.size ≤ 100000 := by omega
    have hs' : s.size ≤ maxLen := by unfold maxLen; omega
    have hl : ¬ (100000 : Int) < (s.size : Int) := by omega
    have Q1 := Lib.hid (QJ.fresh s w)
    obtain ⟨RES, hRES⟩ : ∃ RES, RES = Cx.parse s.data.toList := ⟨_, rfl⟩
    have hP : parseT s.data.toList = pT RES := by rw [hRES]; rfl
    unfold Cx.parse at hRES
    rw [if_neg (show ¬ 100000 < s.data.toList.length by exact hlong), show s.data.toList.length = s.size from rfl] at hRES
    have HR := Lib.hid hRES; have HP := Lib.hid hP
    clear hRES hP hlong
    go_enter Tryz.func8, Tryz.ntmps8
    go_wp2_with fail
    refine (value2_calls s (w.heap.size + 1) hs (s.size + 1) 0 _ 0 0 (by omega) Q1.out.rd (by omega) (by omega) (by omega)).mono ?_
    intro e w3 hgv
    obtain ⟨k, cs, j2, m2, y, qq, rfl, kj, km, kr, hcase⟩ := hgv.both
    obtain ⟨c0, c1, c2, c3, c4, rfl⟩ := five kj.length
    obtain ⟨x0, x1, x2, x3, x4, x5, x6, x7, x8, rfl, rfl, rfl, rfl, rfl⟩ := five_shape kj
    have Q3 := Lib.hid (Q1.out.move km kr)
    have hj2 : j2 ≤ s.size := by
      rcases hcase with ⟨_, _, n2, _, hv⟩ | ⟨_, h, _⟩
      · exact ((Cx.value_fine s.data.toList (s.size + 1) 0 (by omega)).ok 0 0 k j2 n2 (by omega) (by omega) hv).2.1
      · exact h
    have h31 : w.heap.size + 2 ≤ w3.heap.size := by have := km.size; simp at this; omega
    have hj4 : JAt (w3.alloc (.cells #[.int .i64 x0, .bool x1, .string x2, .slice x3 x4 x5, .slice x6 x7 x8] 26)) (fun g => w.heap.size + 2 ≤ g ∧ g < w3.heap.size) k [.int .i64 x0, .bool x1, .string x2, .slice x3 x4 x5, .slice x6 x7 x8] :=
      JAt.kept (by simp) (fun g hg hl => ⟨Below.heap_alloc _ _ _ hl, by simp at hg; omega, hl⟩) _ _ kj
    have Q4 := Lib.hid (Q3.out.move ((Mv.refl _ w3).alloc (.cells #[.int .i64 x0, .bool x1, .string x2, .slice x3 x4 x5, .slice x6 x7 x8] 26)) (Q3.out.rd.alloc (.cells #[.int .i64 x0, .bool x1, .string x2, .slice x3 x4 x5, .slice x6 x7 x8] 26)))
    have X4 := Lib.hid (heap_alloc_new w3 (.cells #[.int .i64 x0, .bool x1, .string x2, .slice x3 x4 x5, .slice x6 x7 x8] 26))
    have HJ := Lib.hid hj4; have HCS := Lib.hid hcase
    clear kj km kr hcase hgv Q1 Q3 hj4
    go_wp2_with fail
    refine (blanks2_calls s j2 m2 y qq (w.heap.size + 1) _ Q4.out.rd hj2 hs').mono ?_
    rintro e w5 ⟨rfl, k1, k2⟩
    have hlp : Cx.skipB s.data.toList j2 ≤ s.size := Cx.skipB_len (s := s.data.toList) (show j2 ≤ s.data.toList.length from hj2)
    obtain ⟨p, hp⟩ : ∃ p, p = Cx.skipB s.data.toList j2 := ⟨_, rfl⟩
    rw [← hp] at k1 hlp
    have Q5 := Lib.hid (Q4.out.move k2 k1)
    have X5 := Lib.hid (k2.heap X4.out (by omega))
    have hj5 : JAt w5 (fun g => w.heap.size + 2 ≤ g) k [.int .i64 x0, .bool x1, .string x2, .slice x3 x4 x5, .slice x6 x7 x8] :=
      JAt.kept k2.size (fun g hg hl => ⟨k2.block g hl (by simp; omega), hg.1⟩) _ _ HJ.out
    have J5 := Lib.hid hj5; have HPP := Lib.hid hp
    clear k1 k2 hp hj5 HJ X4 Q4
    have q0 := Q5.out.rd.c0; have q1 := Q5.out.rd.c1
    rcases HCS.out with ⟨hy0, hqq, n2, hm2, hv⟩ | ⟨hy1, _, x, hv, hyx, hqx⟩
    · subst hy0 hqq hm2
      have hr := HR.out
      rw [hv] at hr
      simp only at hr
      rw [← HPP.out] at hr
      by_cases hlt : p < s.size
      · rw [if_pos hlt] at hr
        have HE := Lib.hid hr
        have hltI : (p : Int) < (s.size : Int) := by omega
        clear hr hv HCS HR
        go_wp2_with fail
        refine (fail_calls s p _ 0 7 p (w.heap.size + 1) _ Q5.out.rd).mono ?_
        rintro e w6 ⟨rfl, k1, k2⟩
        have Q6 := Lib.hid (Q5.out.move k2 k1)
        clear k1 k2 q0 q1 Q5
        go_wp2_with fail
        refine (ok_calls s _ _ _ _ (w.heap.size + 1) _ Q6.out.rd).mono ?_
        rintro e w' ⟨rfl, hw'⟩
        have hw' := hw'.symm
        subst hw'
        rw [show ((7 : Int) == 0) = false by decide]
        have q3 := Q6.out.rd.c3; have q4 := Q6.out.rd.c4
        obtain ⟨r0, r1, r2, r3, r4, rf⟩ := cells5 Q6.out.res
        have rf0 := rf 0; have rf1 := rf 1; have rf2 := rf 2; have rf3 := rf 3; have rf4 := rf 4
        have nb : w.heap.size + 1 ≠ w.heap.size := by omega
        obtain ⟨z0, z1, z2, z3, z4, _⟩ := cells5 (put5_heap (a := (.int .i64 0)) (b := (.bool false)) (c := (.string ⟨#[]⟩)) (d := (.slice none 0 0)) (e := (.slice none 0 0)) Q6.out.res)
        have FIN := Lib.hid (Q6.out.fin (.int .i64 0) (.bool false) (.string ⟨#[]⟩) (.slice none 0 0) (.slice none 0 0))
        have Z := Lib.hid (And.intro z0 (And.intro z1 (And.intro z2 (And.intro z3 z4))))
        clear z0 z1 z2 z3 z4 rf
        go_wp2_with fail
        go_region
        go_wp2_with fail
        obtain ⟨z0, z1, z2, z3, z4⟩ := Z.out
        refine bodyPost_ret (v := .tuple #[.agg #[.int .i64 0, .bool false, .string ⟨#[]⟩, .slice none 0 0, .slice none 0 0], .int .i64 7, .int .i64 p]) (by simp [results, Tryz.results8, go_sem, z0, z1, z2, z3, z4]) rfl ?_
        unfold PRet
        rw [HP.out, HE.out]
        exact ⟨[.int .i64 0, .bool false, .string ⟨#[]⟩, .slice none 0 0, .slice none 0 0], rfl, JAt.plain, FIN.out.drew⟩
      · rw [if_neg hlt] at hr
        have HE := Lib.hid hr
        have hltI : ¬ (p : Int) < (s.size : Int) := by omega
        clear hr hv HCS HR
        obtain ⟨e0, e1, e2, e3, e4, _⟩ := cells5 X5.out
        obtain ⟨r0, r1, r2, r3, r4, rf⟩ := cells5 Q5.out.res
        have rf0 := rf 0; have rf1 := rf 1; have rf2 := rf 2; have rf3 := rf 3; have rf4 := rf 4
        obtain ⟨z0, z1, z2, z3, z4, _⟩ := cells5 (put5_heap (a := (.int .i64 x0)) (b := (.bool x1)) (c := (.string x2)) (d := (.slice x3 x4 x5)) (e := (.slice x6 x7 x8)) Q5.out.res)
        have FIN := Lib.hid (Q5.out.fin (.int .i64 x0) (.bool x1) (.string x2) (.slice x3 x4 x5) (.slice x6 x7 x8))
        have Z := Lib.hid (And.intro z0 (And.intro z1 (And.intro z2 (And.intro z3 z4))))
        have hj6 : JAt (put5 w5 w.heap.size (.int .i64 x0) (.bool x1) (.string x2) (.slice x3 x4 x5) (.slice x6 x7 x8)) (fun g => w.heap.size ≤ g) k [.int .i64 x0, .bool x1, .string x2, .slice x3 x4 x5, .slice x6 x7 x8] :=
          JAt.kept (by rw [put5_size]; exact Nat.le_refl _) (fun g hg hl => ⟨put5_other (by omega), by omega⟩) _ _ J5.out
        have J6 := Lib.hid hj6
        clear z0 z1 z2 z3 z4 rf hj6
        go_wp2_with fail
        refine (ok_calls s _ _ _ _ (w.heap.size + 1) _ Q5.out.rd).mono ?_
        rintro e w' ⟨rfl, hw'⟩
        have hw' := hw'.symm
        subst hw'
        go_wp2_with fail
        obtain ⟨z0, z1, z2, z3, z4⟩ := Z.out
        refine bodyPost_ret (v := .tuple #[.agg #[.int .i64 x0, .bool x1, .string x2, .slice x3 x4 x5, .slice x6 x7 x8], .int .i64 0, .int .i64 0]) (by simp [results, Tryz.results8, go_sem, z0, z1, z2, z3, z4]) rfl ?_
        unfold PRet
        rw [HP.out, HE.out]
        exact ⟨[.int .i64 x0, .bool x1, .string x2, .slice x3 x4 x5, .slice x6 x7 x8], rfl, J6.out, FIN.out⟩
    · have hr := HR.out
      rw [hv] at hr
      simp only at hr
      subst hyx hqx
      obtain ⟨xe, xp⟩ := x
      simp only at hr hy1 Q5 ⊢
      have HE := Lib.hid hr
      have hxb : ((xe : Int) == 0) = false := by rw [beq_eq_false_iff_ne]; exact hy1
      have HY := Lib.hid hy1
      clear hr hv HCS HR hy1
      by_cases hlt : p < s.size
      · have hltI : (p : Int) < (s.size : Int) := by omega
        go_wp2_with fail
        refine (fail_no s p _ _ _ 7 p (w.heap.size + 1) _ Q5.out.rd HY.out).mono ?_
        rintro e w' ⟨rfl, hw'⟩
        have hw' := hw'.symm
        subst hw'
        go_wp2_with fail
        refine (ok_calls s _ _ _ _ (w.heap.size + 1) _ Q5.out.rd).mono ?_
        rintro e w' ⟨rfl, hw'⟩
        have hw' := hw'.symm
        subst hw'
        rw [hxb]
        have q3 := Q5.out.rd.c3; have q4 := Q5.out.rd.c4
        obtain ⟨r0, r1, r2, r3, r4, rf⟩ := cells5 Q5.out.res
        have rf0 := rf 0; have rf1 := rf 1; have rf2 := rf 2; have rf3 := rf 3; have rf4 := rf 4
        have nb : w.heap.size + 1 ≠ w.heap.size := by omega
        obtain ⟨z0, z1, z2, z3, z4, _⟩ := cells5 (put5_heap (a := (.int .i64 0)) (b := (.bool false)) (c := (.string ⟨#[]⟩)) (d := (.slice none 0 0)) (e := (.slice none 0 0)) Q5.out.res)
        have FIN := Lib.hid (Q5.out.fin (.int .i64 0) (.bool false) (.string ⟨#[]⟩) (.slice none 0 0) (.slice none 0 0))
        have Z := Lib.hid (And.intro z0 (And.intro z1 (And.intro z2 (And.intro z3 z4))))
        clear z0 z1 z2 z3 z4 rf
        go_wp2_with fail
        go_region
        go_wp2_with fail
        obtain ⟨z0, z1, z2, z3, z4⟩ := Z.out
        refine bodyPost_ret (v := .tuple #[.agg #[.int .i64 0, .bool false, .string ⟨#[]⟩, .slice none 0 0, .slice none 0 0], .int .i64 xe, .int .i64 xp]) (by simp [results, Tryz.results8, go_sem, z0, z1, z2, z3, z4]) rfl ?_
        unfold PRet
        rw [HP.out, HE.out]
        exact ⟨[.int .i64 0, .bool false, .string ⟨#[]⟩, .slice none 0 0, .slice none 0 0], rfl, JAt.plain, FIN.out.drew⟩
      · have hltI : ¬ (p : Int) < (s.size : Int) := by omega
        go_wp2_with fail
        refine (ok_calls s _ _ _ _ (w.heap.size + 1) _ Q5.out.rd).mono ?_
        rintro e w' ⟨rfl, hw'⟩
        have hw' := hw'.symm
        subst hw'
        rw [hxb]
        have q3 := Q5.out.rd.c3; have q4 := Q5.out.rd.c4
        obtain ⟨r0, r1, r2, r3, r4, rf⟩ := cells5 Q5.out.res
        have rf0 := rf 0; have rf1 := rf 1; have rf2 := rf 2; have rf3 := rf 3; have rf4 := rf 4
        have nb : w.heap.size + 1 ≠ w.heap.size := by omega
        obtain ⟨z0, z1, z2, z3, z4, _⟩ := cells5 (put5_heap (a := (.int .i64 0)) (b := (.bool false)) (c := (.string ⟨#[]⟩)) (d := (.slice none 0 0)) (e := (.slice none 0 0)) Q5.out.res)
        have FIN := Lib.hid (Q5.out.fin (.int .i64 0) (.bool false) (.string ⟨#[]⟩) (.slice none 0 0) (.slice none 0 0))
        have Z := Lib.hid (And.intro z0 (And.intro z1 (And.intro z2 (And.intro z3 z4))))
        clear z0 z1 z2 z3 z4 rf
        go_wp2_with fail
        go_region
        go_wp2_with fail
        obtain ⟨z0, z1, z2, z3, z4⟩ := Z.out
        refine bodyPost_ret (v := .tuple #[.agg #[.int .i64 0, .bool false, .string ⟨#[]⟩, .slice none 0 0, .slice none 0 0], .int .i64 xe, .int .i64 xp]) (by simp [results, Tryz.results8, go_sem, z0, z1, z2, z3, z4]) rfl ?_
        unfold PRet
        rw [HP.out, HE.out]
        exact ⟨[.int .i64 0, .bool false, .string ⟨#[]⟩, .slice none 0 0, .slice none 0 0], rfl, JAt.plain, FIN.out.drew⟩
end Go.Proofs.YtbdmepilmoomeaaGreatDoor

namespace Go.Proofs.YtbdmepilmoomeaaGreatDoor
open Go.RowKit

set_option maxRecDepth 100000 in
set_option maxHeartbeats 2000000 in
theorem reads_calls (t : List UInt8) (w : World) (hg : Glb w) (h8 : 8 ≤ w.heap.size) (htl : t.length ≤ maxLen) :
    Calls Tryz.prog 3 #[.string ⟨t.toArray⟩] w fun e w' => e = .returned (.bool true) ∧ Below w.heap.size w w' := by
  unfold maxLen at htl
  have HG := Lib.hid hg
  clear hg
  by_cases hl : t.length ≤ 3000
  · have hl1 : ¬ (3000 : Int) < (t.length : Int) := by omega
    have hts : (⟨t.toArray⟩ : ByteArray).size = t.length := by simp [ByteArray.size]
    have htd : (⟨t.toArray⟩ : ByteArray).data.toList = t := by simp
    obtain ⟨T, hT⟩ : ∃ T : ByteArray, T = ⟨t.toArray⟩ := ⟨_, rfl⟩
    rw [← hT] at hts htd
    have hTs : T.size ≤ maxLen := by unfold maxLen; omega
    obtain ⟨v, er, pp, hP⟩ : ∃ v er pp, parseT T.data.toList = (v, er, pp) := ⟨_, _, _, rfl⟩
    have hf : fit maxLen v := by
      unfold parseT at hP
      cases hx : Cx.parse T.data.toList with
      | ok u =>
        rw [hx] at hP
        injection hP with h1 _
        subst h1
        exact fit_le (show T.data.toList.length ≤ maxLen by rw [htd]; unfold maxLen; omega) _ (Cx.parse_fit hx)
      | error x =>
        obtain ⟨a, b⟩ := x
        rw [hx] at hP
        injection hP with h1 _
        subst h1
        exact Cx.fit_leaf (by simp)
    have HT := Lib.hid hT; have HP := Lib.hid hP; have HF := Lib.hid hf; have HTS := Lib.hid hTs
    clear hP hf htd hTs
    rw [← hT]
    have hlT : ¬ (3000 : Int) < (T.size : Int) := by omega
    clear hT hl1 hts hl htl HT
    go_enter Tryz.func3, Tryz.ntmps3
    go_wp2_with fail
    refine (shown_calls _ HG.out h8).mono ?_
    rintro e w1 ⟨rfl, hb⟩
    have B1 := Lib.hid hb
    clear hb
    go_wp2_with fail
    refine (parse_calls T _ (HG.out.below B1.out) (Nat.le_trans h8 B1.out.size)).mono ?_
    rintro e w3 ⟨cs, rfl, hj, hb⟩
    rw [HP.out] at hj ⊢
    simp only at hj ⊢
    have B3 := Lib.hid (B1.out.trans (hb.mono B1.out.size))
    clear hb
    cases v with
    | mk k is x ns ks =>
    obtain ⟨a, nc, a', kc, rfl⟩ := hj.shape
    have J4 := Lib.hid (hj.all.below ((Below.refl w3.heap.size w3).alloc (Nat.le_refl _) (.cells #[.int .i64 k, .bool is, .string ⟨x.toArray⟩, .slice a ns.length nc, .slice a' ks.length kc] 26)))
    have B4 := Lib.hid (B3.out.alloc B3.out.size (.cells #[.int .i64 k, .bool is, .string ⟨x.toArray⟩, .slice a ns.length nc, .slice a' ks.length kc] 26))
    have X4 := Lib.hid (heap_alloc_new w3 (.cells #[.int .i64 k, .bool is, .string ⟨x.toArray⟩, .slice a ns.length nc, .slice a' ks.length kc] 26))
    clear hj
    go_wp2_with fail
    refine (refParse_calls T _ HTS.out).mono ?_
    rintro e w5 ⟨cs, rfl, hj, hb⟩
    rw [HP.out] at hj ⊢
    simp only at hj ⊢
    have B5 := Lib.hid (B4.out.trans (hb.mono B4.out.size))
    have J5 := Lib.hid (J4.out.all.below hb)
    have X5 := Lib.hid ((hb.block _ (heap_lt X4.out)).trans X4.out)
    clear hb
    obtain ⟨b, mc, b', lc, rfl⟩ := hj.shape
    have hb6 := (Below.refl w5.heap.size w5).alloc (Nat.le_refl _) (.cells #[.int .i64 k, .bool is, .string ⟨x.toArray⟩, .slice b ns.length mc, .slice b' ks.length lc] 26)
    have K6 := Lib.hid (hj.all.below hb6)
    have J6 := Lib.hid (J5.out.all.below hb6)
    have X6 := Lib.hid ((hb6.block _ (heap_lt X5.out)).trans X5.out)
    have B6 := Lib.hid (B5.out.trans (hb6.mono B5.out.size))
    obtain ⟨d0, d1, d2, d3, d4, _⟩ := cells5 X6.out
    clear hj hb6
    go_wp2_with fail
    refine (same_calls _ (.mk k is x ns ks) (.mk k is x ns ks) [.int .i64 k, .bool is, .string ⟨x.toArray⟩, .slice a ns.length nc, .slice a' ks.length kc] [.int .i64 k, .bool is, .string ⟨x.toArray⟩, .slice b ns.length mc, .slice b' ks.length lc] _ (fun g => g < w5.heap.size) (Nat.le_refl _) J6.out K6.out HF.out HF.out).mono ?_
    rintro e w7 ⟨r, rfl, hr, hb⟩
    have hrt : r = true := hr.2 rfl
    subst hrt
    have B7 := Lib.hid (B6.out.trans (hb.mono B6.out.size))
    clear hb hr
    go_wp2_with fail
    go_ret
    exact ⟨rfl, B7.out⟩
  · have hl1 : (3000 : Int) < (t.length : Int) := by omega
    go_enter Tryz.func3, Tryz.ntmps3
    go_wp2_with fail
    refine (shown_calls _ HG.out h8).mono ?_
    rintro e w1 ⟨rfl, hb⟩
    have B1 := Lib.hid hb
    clear hb
    go_wp2_with fail
    go_ret
    exact ⟨rfl, B1.out⟩
end Go.Proofs.YtbdmepilmoomeaaGreatDoor

namespace Go.Proofs.YtbdmepilmoomeaaGreatDoor
open Go.RowKit Go.ChangeShapes Go.WideShapes Go.ChangeAt Go.Lib Go.Shelf
open Go.ChangeMaps (open_string shut_string)

set_option maxRecDepth 100000 in
theorem jsonReads_lifted (os : Os) (started : os.Started) (H : Type) (enc : TypeId × Value → H) :
    ReturnsInHanded {} Tryz.checked os 3 .any (fun w args => (Rows.jsonReadsSpec.pre enc Tryz.prog Tryz.f3 [] false w args ∧ laidMetH Tryz.prog lst w) ∧ sizedMet enc Tryz.prog Tryz.f3 (OpenSpec.ofChange Rows.jsonReadsSpec) false w args)
      (Rows.jsonReadsSpec.post enc Tryz.prog Tryz.f3 false true false false) := by
  refine returnsInHanded_of_change_and (C := Tryz.checked) (X := fun w _ => laidMetH Tryz.prog lst w) (fun _ _ _ hh h => h.of_heap hh) own started (by kernel_rfl) Tryz.func3
    (ChangeSpec.witness_shaped (enc := enc) (C := Tryz.checked) (os := os) (X := fun w _ => laidMetH Tryz.prog lst w) false (World.laidAll Tryz.prog os lst) #[.string ⟨#[]⟩] 8 (World.laidAll_os _ _ _)
      (World.shaped_of_ZipB (by kernel_rfl) (by kernel_rfl)) (by kernel_rfl) (by kernel_rfl) (by kernel_rfl)
      (by rw [MakeChecks.laidMetH_plain _ _ _ (by kernel_rfl)]; exact laidMet_laidAll _ (by kernel_rfl) (by kernel_rfl))) ?_
  intro W base args ds gs before hval0 hW _ _ hL _
  have hval : ∀ (j : Nat) t v, Tryz.f3.params[j]? = some t → args[j]? = some v → Value.okWide Tryz.prog W .any base t v := hval0
  have hW' := hW
  obtain ⟨p, q, hA0, hV, rfl, _, _⟩ := hW
  have hA : DataW.TrodAll enc Tryz.prog W 0 (fun _ => true) true Tryz.f3.params.toList args.toList ds p := hA0
  rw [Tryz.params3] at hA hval
  obtain ⟨v0, d0, rfl, rfl, h0⟩ := trodAll_one hA
  obtain ⟨rfl, rfl⟩ := trodVars_none hV
  obtain ⟨s0, rfl, rfl, rfl, hs0⟩ := open_string under_string (hval 0 9 v0 rfl rfl) h0
  have hsl0 : s0 = ⟨s0.data.toList.toArray⟩ := rfl
  simp only [List.append_nil] at hW'
  obtain ⟨hg, h8⟩ := glb_of_laid hL
  have hc := reads_calls s0.data.toList W hg h8 hs0
  rw [← hsl0] at hc
  refine hc.mono fun e W' ⟨he, hb⟩ => ?_
  subst he
  exact ⟨_, rfl, _, _, _, [], [], [], hW', trodAll_mk1 (shut_bool Tryz.underlying4 _), trodAll_mk1 (shut_string under_string hs0), rfl, hb.frame _, fun h => by cases h⟩

theorem jsonReads_holds : Rows.JsonReadsSaid :=
  OpenClaim.holds_of_wide 3 Tryz.f3 rfl rfl rfl rfl rfl rfl rfl ⟨rfl, rfl, rfl, rfl, rfl⟩ rfl rfl rfl rfl rfl (by kernel_rfl) Tryz.func3 (by kernel_rfl)
    (of_decide_eq_true (by kernel_rfl)) (by unfold Func.isWrapper; rw [if_neg (of_decide_eq_false (by kernel_rfl))]; exact ⟨rfl, rfl⟩)
    (fun os started H enc _ => jsonReads_lifted os started H enc)

theorem jsonReads_card : Rows.JsonReadsCardSaid :=
  Claim7.holds_tied_plain_at .later [] [.data, .data, .data, .data, .sentinel, .sentinel, .pinned] true Rows.jsonReadsCard.stood.harness true jsonReads_holds (fun _ h => by cases h) (by kernel_rfl) (fun _ h => by cases h) jsonReads_row_tie rfl ⟨rfl, rfl⟩ (by kernel_rfl) rfl
    (fun f fn hf hfn => by
      obtain rfl : f = 3 := Option.some.inj ((show Tryz.prog.funcNamed Rows.jsonReadsRow.func = some 3 by kernel_rfl).symm.trans hf) |>.symm
      obtain rfl : fn = Tryz.f3 := (Option.some.inj (Tryz.func3.symm.trans hfn)).symm
      exact ⟨by kernel_rfl, fun j t ht => by
        rw [Tryz.params3] at ht
        have hm : t ∈ [9] := by simpa using Array.mem_of_getElem? ht
        have hall : ([9].all fun u => !Tryz.prog.wantsStandIn u) = true := by kernel_rfl
        exact (show Tryz.prog.wantsStandIn t = false by simpa using List.all_eq_true.1 hall t hm)⟩)
    (by kernel_rfl)
#print axioms jsonReads_card
end Go.Proofs.YtbdmepilmoomeaaGreatDoor

