/- WALKS: a list, as the document's answer reads it. -/
import Derived.Test.YtejlddimokmgjaaGreatDoorYRi
import Derived.Test.YtejlddimokmgjaaGreatDoorKf
namespace Go.Proofs.YtejlddimokmgjaaGreatDoor
open Go.RowKit

/-- Whatever a reader of a value comes to: a value, and a reader that is in its fault or not. -/
theorem RG.both {b : Nat} {s : ByteArray} {w w' : World} {r : Cx.Res (Cx.J × Nat × Nat)} {e : Ending} (h : RG r (JRet2 b s w) (JBad w) b s w e w') :
    ∃ (k : Cx.J) (cs : List Value) (j : Nat) (m y q : Int), e = .returned (.agg cs.toArray) ∧ JAt w' (fun g => w.heap.size ≤ g) k cs ∧ Mv b w w' ∧ R2 b s j m y q w' ∧
      ((y = 0 ∧ q = 0 ∧ ∃ m2 : Nat, m = m2 ∧ r = .ok (k, j, m2)) ∨ (y ≠ 0 ∧ j ≤ s.size ∧ ∃ x : Nat × Nat, r = .error x ∧ y = x.1 ∧ q = x.2)) := by
  cases r with
  | ok a =>
    obtain ⟨k, j, m⟩ := a
    obtain ⟨⟨cs, h1, h2, h3⟩, h4⟩ := h.of_ok rfl
    exact ⟨k, cs, j, m, 0, 0, h1, h2, h4, h3, .inl ⟨rfl, rfl, m, rfl, rfl⟩⟩
  | error x =>
    obtain ⟨h1, ⟨v, cs, h2, h3⟩, h4, j, m, h5, h6⟩ := h.of_err rfl
    exact ⟨v, cs, j, m, x.1, x.2, h2, h3, h1, h6, .inr ⟨by omega, h5, x, rfl, rfl, rfl⟩⟩

/-- The box of a value that was read. -/
structure KBox (b : Nat) (s : ByteArray) (wr : World) (r : Cx.Res (Cx.J × Nat × Nat)) (K : Nat) (x0 : Int) (x1 : Bool) (x2 : ByteArray) (x3 : Option Addr) (x4 x5 : Nat) (x6 : Option Addr) (x7 x8 : Nat) (k : Cx.J) (j : Nat) (m y q : Int) (wk : World) : Prop where
  mv : Mv b wr wk
  rd : R2 b s j m y q wk
  box : wk.heap[K]? = some (.cells #[.int .i64 x0, .bool x1, .string x2, .slice x3 x4 x5, .slice x6 x7 x8] 48 (0, 0))
  jat : JAt wk (fun g => wr.heap.size ≤ g) k [.int .i64 x0, .bool x1, .string x2, .slice x3 x4 x5, .slice x6 x7 x8]
  cs : (y = 0 ∧ q = 0 ∧ ∃ m2 : Nat, m = m2 ∧ r = .ok (k, j, m2)) ∨ (y ≠ 0 ∧ j ≤ s.size ∧ ∃ x : Nat × Nat, r = .error x ∧ y = x.1 ∧ q = x.2)
  base : wr.heap.size ≤ K

set_option maxRecDepth 100000 in
set_option maxHeartbeats 2000000 in
theorem list2_calls (s : ByteArray) (i m : Nat) (b : Nat) (deep : Int) (val : Nat → Nat → Cx.Res (Cx.J × Nat × Nat)) (d : Nat) (hfine : Cx.Fine s.data.toList (d + 1) val)
    (hval : ∀ (w : World) (i' m : Nat), i < i' → R2 b s i' m 0 0 w → i' ≤ s.size → m ≤ 5000 → Calls Tryz.prog 77 #[.pointer (some ⟨b, 0, none⟩), .int .i64 deep] w (RG (val i' m) (JRet2 b s w) (JBad w) b s w))
    (w : World) (h : R2 b s (i + 1 : Nat) m 0 0 w) (hi : i < s.size) (hm : m ≤ 5000) (hs : s.size ≤ 100000) :
    Calls Tryz.prog 127 #[.pointer (some ⟨b, 0, none⟩), .int .i64 deep] w (RG (Cx.group val s.data.toList false i m) (JRet2 b s w) (JBad w) b s w) := by
  have hs' : s.size ≤ maxLen := by unfold maxLen; omega
  have hbl := h.lt
  obtain ⟨RES, hRES⟩ : ∃ RES, RES = Cx.group val s.data.toList false i m := ⟨_, rfl⟩
  rw [← hRES]
  unfold Cx.group at hRES
  have HR := Lib.hid hRES
  have HPI := Lib.hid (PJ.fresh (kind := 5) h); have HV := Lib.hid hval; have HF := Lib.hid hfine
  clear hRES h hval hfine
  go_enter Tryz.func127, Tryz.ntmps127
  go_wp2_with fail
  refine (blanks2_calls s (i + 1) m 0 0 b _ HPI.out.rd (by omega) hs').mono ?_
  rintro e w2 ⟨rfl, k1, k2⟩
  have hpi2 := HPI.out.move hbl k2 k1
  have hlp : Cx.skipB s.data.toList (i + 1) ≤ s.size := Cx.skipB_len (s := s.data.toList) (show i + 1 ≤ s.data.toList.length from hi)
  have hip := Cx.skipB_le (s := s.data.toList) (i := i + 1)
  have HR2 := HR.out
  generalize hp : Cx.skipB s.data.toList (i + 1) = p at hpi2 hlp hip HR2 ⊢
  have P2 := Lib.hid hpi2; have HRA := Lib.hid HR2
  clear hp k1 k2 hpi2 HR2 HR HPI
  go_wp2_with fail
  refine (next_mv s p m 0 0 b _ P2.out.rd hs').mono ?_
  rintro e w3 ⟨rfl, k1, k2⟩
  have P3 := Lib.hid (P2.out.move hbl k2 k1)
  clear k1 k2 P2
  by_cases hend : Cx.peek s.data.toList p = 93
  · have hr := HRA.out
    rw [if_pos (by rw [hend]; rfl)] at hr
    have HRB := Lib.hid hr
    have hplt : p < s.size := Cx.peek_lt (s := s.data.toList) (by rw [hend]; decide)
    rw [hend]
    have q1 := P3.out.rd.c1; have qf := P3.out.rd.fr 1
    have hp4 : PJ b w.heap.size 5 s w (p + 1) m 0 0 [] [] (.slice none 0 0) (.slice none 0 0) [] (w3.setCell ⟨b, 1, none⟩ (.int .i64 ((p : Int) + 1))) := P3.out.move hbl ((Mv.refl b w3).set (.inl rfl) _) (P3.out.rd.set1 _)
    have P4 := Lib.hid hp4
    clear hp4
    clear hend hr HRA P3
    obtain ⟨d0, d1, d2, d3, d4, _⟩ := cells5 P4.out.box
    obtain ⟨r0, r1, r2, r3, r4, rf⟩ := cells5 P4.out.res
    have rf0 := rf 0; have rf1 := rf 1; have rf2 := rf 2; have rf3 := rf 3; have rf4 := rf 4
    obtain ⟨z0, z1, z2, z3, z4, _⟩ := cells5 (put5_heap (a := .int .i64 5) (b := .bool false) (c := .string ⟨#[]⟩) (d := .slice none 0 0) (e := .slice none 0 0) P4.out.res)
    have FIN := Lib.hid (P4.out.fin hbl); have Z := Lib.hid (And.intro z0 (And.intro z1 (And.intro z2 (And.intro z3 z4))))
    clear z0 z1 z2 z3 z4 rf
    go_wp2_with fail
    obtain ⟨z0, z1, z2, z3, z4⟩ := Z.out
    refine bodyPost_ret (v := .agg #[.int .i64 5, .bool false, .string ⟨#[]⟩, .slice none 0 0, .slice none 0 0]) (by simp [results, Tryz.results127, go_sem, z0, z1, z2, z3, z4]) rfl ?_
    obtain ⟨f1, f2, f3⟩ := FIN.out
    exact RG.ok HRB.out f3 ⟨_, rfl, f1, f2⟩
  · have n93 : (((Cx.peek s.data.toList p).toNat : Int) == 93) = false := u8ne (k := 93) hend
    have hr := HRA.out
    rw [if_neg (by simpa using hend)] at hr
    have HRB := Lib.hid hr
    clear hend hr HRA
    go_wp2_with fail
    clear n93
    go_loopg [] (s.size + 1) (fun q wr => ∃ (j m' : Nat) (ks : List Cx.J) (sk : Value) (css : List (List Value)), 0 < q ∧ s.size < j + q ∧ i < j ∧ j ≤ s.size ∧ ks.length ≤ j ∧ m' ≤ 5000 ∧ Hid (RES = Cx.parts val s.data.toList false q j m' [] ks) ∧ Hid (PJ b w.heap.size 5 s w j m' 0 0 [] ks (.slice none 0 0) sk css wr))
    case atStart => exact ⟨p, m, [], _, [], by omega, by omega, by omega, hlp, by simp, hm, HRB.out, P3.out⟩
    case round =>
      obtain ⟨j, m', ks, sk, css, hq0, hq, hij, hj, hkl, hm', HR, P⟩ := hrel
      obtain ⟨q, rfl⟩ : ∃ q, gk = q + 1 := ⟨gk - 1, by omega⟩
      have hr := HR.out
      unfold Cx.parts at hr
      simp only [Bool.false_eq_true, if_false] at hr
      have HR2 := Lib.hid hr
      clear HRB P3 hq0 HR hr
      go_wp2_with fail
      refine (ok_calls s _ _ _ _ b _ P.out.rd).mono ?_
      rintro e w' ⟨rfl, hw'⟩
      have hw' := hw'.symm
      subst hw'
      go_upto_region 7 with fail
      go_cut [6] (fun kp wk => ∃ (K : Nat) (x0 : Int) (x1 : Bool) (x2 : ByteArray) (x3 : Option Addr) (x4 x5 : Nat) (x6 : Option Addr) (x7 x8 : Nat) (k : Cx.J) (j2 : Nat) (m2 y qq : Int), kp = .pointer (some ⟨K, 0, none⟩) ∧ Hid (KBox b s wr (val j m') K x0 x1 x2 x3 x4 x5 x6 x7 x8 k j2 m2 y qq wk))
      case first =>
        go_wp2_with fail
        refine (HV.out _ j m' hij P.out.rd hj hm').mono ?_
        intro e w3 hgv
        obtain ⟨k, cs, j2, m2, y, qq, rfl, kj, km, kr, hcase⟩ := hgv.both
        obtain ⟨c0, c1, c2, c3, c4, rfl⟩ := five kj.length
        obtain ⟨x0, x1, x2, x3, x4, x5, x6, x7, x8, rfl, rfl, rfl, rfl, rfl⟩ := five_shape kj
        have hKB : KBox b s wr (val j m') w3.heap.size x0 x1 x2 x3 x4 x5 x6 x7 x8 k j2 m2 y qq (w3.alloc (.cells #[.int .i64 x0, .bool x1, .string x2, .slice x3 x4 x5, .slice x6 x7 x8] 48)) :=
          ⟨km.alloc _, kr.alloc _, heap_alloc_new w3 _, JAt.kept (by simp) (fun g hg hl => ⟨Below.heap_alloc _ _ _ hl, hg⟩) _ _ kj, hcase, km.size⟩
        have KB := Lib.hid hKB
        clear hKB kj km kr hcase hgv
        go_wp2_with fail
        go_meet
        case rel => exact ⟨_, x0, x1, x2, x3, x4, x5, x6, x7, x8, k, j2, m2, y, qq, rfl, KB⟩
      case rest =>
      obtain ⟨K, x0, x1, x2, x3, x4, x5, x6, x7, x8, k, j2, m2, y, qq, rfl, KB⟩ := hcut
      obtain ⟨wk, hwk⟩ : ∃ wk, wk = wc := ⟨_, rfl⟩
      rw [← hwk] at KB ⊢
      clear hwk
      obtain ⟨ska, skn, skc, rfl⟩ := own_shape P.out.own2
      have hpm := P.out.move hbl KB.out.mv KB.out.rd
      have hsw := P.out.size
      have hsk := KB.out.mv.size
      have hk4 : JAt (wk.alloc (.cells #[.int .i64 x0, .bool x1, .string x2, .slice x3 x4 x5, .slice x6 x7 x8] 48)) (fun g => wr.heap.size ≤ g) k [.int .i64 x0, .bool x1, .string x2, .slice x3 x4 x5, .slice x6 x7 x8] := JAt.kept (by simp) (fun g hg hl => ⟨Below.heap_alloc _ _ _ hl, hg⟩) _ _ KB.out.jat
      obtain ⟨e0, e1, e2, e3, e4, _⟩ := cells5 KB.out.box
      have b4 := (cells5 hpm.box).2.2.2.2.1
      obtain ⟨i0, hi0, hz0, hz1, hz2⟩ := info_parts infoJ
      have OWN := Lib.hid (hpm.own2.alloc (.cells #[.int .i64 x0, .bool x1, .string x2, .slice x3 x4 x5, .slice x6 x7 x8] 48)); have JO := Lib.hid KB.out.jat.one; have SZ3 := Lib.hid (show w.heap.size + 2 ≤ (wk.alloc (.cells #[.int .i64 x0, .bool x1, .string x2, .slice x3 x4 x5, .slice x6 x7 x8] 48)).heap.size by simp; omega)
      have NEWS := Lib.hid (World.news_of_block (cs := #[.int .i64 x0, .bool x1, .string x2, .slice x3 x4 x5, .slice x6 x7 x8]) (t := 48) (fr := (0, 0)) (heap_alloc_new wk (.cells #[.int .i64 x0, .bool x1, .string x2, .slice x3 x4 x5, .slice x6 x7 x8] 48)))
      have NX := Lib.hid (fun w5 hg => hpm.next (w5 := w5) (o := (.cells #[.int .i64 x0, .bool x1, .string x2, .slice x3 x4 x5, .slice x6 x7 x8] 48)) hg)
      have KM := Lib.hid (KB.out.mv.alloc (.cells #[.int .i64 x0, .bool x1, .string x2, .slice x3 x4 x5, .slice x6 x7 x8] 48)); have KR := Lib.hid (KB.out.rd.alloc (.cells #[.int .i64 x0, .bool x1, .string x2, .slice x3 x4 x5, .slice x6 x7 x8] 48)); have HK4 := Lib.hid hk4; have HCS := Lib.hid KB.out.cs
      clear hpm hk4
      go_wp2_with (at_builtin; refine wpList_append_lies _ rfl _ _ 46 rfl (w.heap.size + 2) 48 i0 _ 5 80 Tryz.underlying46 hi0 hz0 hz1 hz2 rfl (by decide) (.slice ska skn skc) ks.length css.flatten rfl OWN.out ⟨wk.heap.size, 0, none⟩ 1 1 [.int .i64 x0, .bool x1, .string x2, .slice x3 x4 x5, .slice x6 x7 x8] rfl rfl NEWS.out JO.out (by decide) (by unfold maxLen; omega) (by omega) SZ3.out (wk.heap.size + 1) (by simp) ?_; intro gg cap w5 hown5 hgrow5 hat5 hlt5; have d4 := NX.out w5 hgrow5; have d4a := d4.1; have d4b := d4.2)
      have P6 := Lib.hid (P.out.addKid hbl KM.out KR.out HK4.out hown5 hgrow5 (by simpa using hat5))
      clear hown5 hgrow5 hat5 hlt5 d4 d4a d4b OWN JO SZ3 NX KM KR HK4 e0 e1 e2 e3 e4 b4 hi0 hz0 hz1 hz2 NEWS
      go_wp2_with fail
      rcases HCS.out with ⟨hy0, hqq, n2, hm2, hv⟩ | ⟨hy1, hj2l, x, hv, hyx, hqx⟩
      rotate_left
      · have hr := HR2.out
        rw [hv] at hr
        simp only at hr
        subst hyx hqx
        have HE := Lib.hid hr; have HX1 : Hid (x.1 ≠ 0) := Lib.hid (by omega)
        refine (show Calls Tryz.prog 162 #[.pointer (some ⟨b, 0, none⟩), .int .u8 93] _ _ from more_no s j2 m2 x.1 x.2 b 93 _ P6.out.rd hy1 hj2l hs').mono ?_
        rintro e w8 ⟨rfl, k1, k2⟩
        have P8 := Lib.hid (P6.out.move hbl k2 k1)
        have hpl : Cx.skipB s.data.toList j2 ≤ s.size := Cx.skipB_len (s := s.data.toList) hj2l
        clear hr hv hy1 k1 k2 P6 P KB HCS
        obtain ⟨d0, d1, d2, d3, d4, _⟩ := cells5 P8.out.box
        obtain ⟨r0, r1, r2, r3, r4, rf⟩ := cells5 P8.out.res
        have rf0 := rf 0; have rf1 := rf 1; have rf2 := rf 2; have rf3 := rf 3; have rf4 := rf 4
        obtain ⟨z0, z1, z2, z3, z4, _⟩ := cells5 (put5_heap (a := .int .i64 5) (b := .bool false) (c := .string ⟨#[]⟩) (d := .slice none 0 0) (e := .slice (some ⟨gg, 0, none⟩) (ks.length + 1) cap) P8.out.res)
        have FIN := Lib.hid (P8.out.fin hbl); have Z := Lib.hid (And.intro z0 (And.intro z1 (And.intro z2 (And.intro z3 z4))))
        clear z0 z1 z2 z3 z4 rf
        go_wp2_with fail
        obtain ⟨z0, z1, z2, z3, z4⟩ := Z.out
        refine bodyPost_ret (v := .agg #[.int .i64 5, .bool false, .string ⟨#[]⟩, .slice none 0 0, .slice (some ⟨gg, 0, none⟩) (ks.length + 1) cap]) (by simp [results, Tryz.results127, go_sem, z0, z1, z2, z3, z4]) rfl ?_
        obtain ⟨f1, f2, f3⟩ := FIN.out
        exact RG.err HE.out f3 ⟨_, _, rfl, f1⟩ HX1.out hpl f2
      subst hy0 hqq hm2
      have hfo := HF.out.ok j m' k j2 n2 hj hm' hv
      have hj2 : j2 ≤ s.size := hfo.2.1
      have hjj : j < j2 := hfo.1
      have hm2' : n2 ≤ 5000 := hfo.2.2.2.1
      have hr := HR2.out
      rw [hv] at hr
      simp only at hr
      have hlp2 : Cx.skipB s.data.toList j2 ≤ s.size := Cx.skipB_len (s := s.data.toList) hj2
      have hjp2 := Cx.skipB_le (s := s.data.toList) (i := j2)
      have HRC := Lib.hid hr
      clear hr hv hfo HR2 HCS P KB
      by_cases h44 : Cx.peek s.data.toList (Cx.skipB s.data.toList j2) = 44
      · have hr := HRC.out
        rw [if_pos h44] at hr
        have HRD := Lib.hid hr
        have hlt2 : Cx.skipB s.data.toList j2 < s.size := Cx.peek_lt (s := s.data.toList) (by rw [h44]; decide)
        refine (show Calls Tryz.prog 162 #[.pointer (some ⟨b, 0, none⟩), .int .u8 93] _ _ from more_comma s j2 n2 b 93 _ P6.out.rd hj2 hs' h44).mono ?_
        rintro e w8 ⟨rfl, k1, k2⟩
        have P8 := Lib.hid (P6.out.move hbl k2 k1)
        clear hr h44 k1 k2 P6 HRC
        go_wp2_with fail
        go_roundg q
        case measure => omega
        case rel => exact ⟨Cx.skipB s.data.toList j2 + 1, n2, ks ++ [k], _, _, by omega, by omega, by omega, hlt2, by rw [List.length_append]; simp; omega, hm2', HRD, P8⟩
      have hr := HRC.out
      rw [if_neg h44] at hr
      by_cases h93 : Cx.peek s.data.toList (Cx.skipB s.data.toList j2) = 93
      · have hw : Cx.word s.data.toList [93] (Cx.skipB s.data.toList j2) = .ok (Cx.skipB s.data.toList j2 + 1) := by unfold Cx.word; rw [if_pos h93]; rfl
        rw [hw] at hr
        simp only at hr
        have HRD := Lib.hid hr
        refine (show Calls Tryz.prog 162 #[.pointer (some ⟨b, 0, none⟩), .int .u8 93] _ _ from more_end s j2 n2 b 93 _ P6.out.rd hj2 hs' h93 (by decide) (by decide)).mono ?_
        rintro e w8 ⟨rfl, k1, k2⟩
        have P8 := Lib.hid (P6.out.move hbl k2 k1)
        clear hr hw h44 h93 k1 k2 P6 HRC
        obtain ⟨d0, d1, d2, d3, d4, _⟩ := cells5 P8.out.box
        obtain ⟨r0, r1, r2, r3, r4, rf⟩ := cells5 P8.out.res
        have rf0 := rf 0; have rf1 := rf 1; have rf2 := rf 2; have rf3 := rf 3; have rf4 := rf 4
        obtain ⟨z0, z1, z2, z3, z4, _⟩ := cells5 (put5_heap (a := .int .i64 5) (b := .bool false) (c := .string ⟨#[]⟩) (d := .slice none 0 0) (e := .slice (some ⟨gg, 0, none⟩) (ks.length + 1) cap) P8.out.res)
        have FIN := Lib.hid (P8.out.fin hbl); have Z := Lib.hid (And.intro z0 (And.intro z1 (And.intro z2 (And.intro z3 z4))))
        clear z0 z1 z2 z3 z4 rf
        go_wp2_with fail
        obtain ⟨z0, z1, z2, z3, z4⟩ := Z.out
        refine bodyPost_ret (v := .agg #[.int .i64 5, .bool false, .string ⟨#[]⟩, .slice none 0 0, .slice (some ⟨gg, 0, none⟩) (ks.length + 1) cap]) (by simp [results, Tryz.results127, go_sem, z0, z1, z2, z3, z4]) rfl ?_
        obtain ⟨f1, f2, f3⟩ := FIN.out
        exact RG.ok HRD.out f3 ⟨_, rfl, f1, f2⟩
      · have hw : Cx.word s.data.toList [93] (Cx.skipB s.data.toList j2) = .error (7, Cx.skipB s.data.toList j2) := by unfold Cx.word; rw [if_neg h93]
        rw [hw] at hr
        simp only at hr
        have HRD := Lib.hid hr
        refine (show Calls Tryz.prog 162 #[.pointer (some ⟨b, 0, none⟩), .int .u8 93] _ _ from more_bad s j2 n2 b 93 _ P6.out.rd hj2 hs' h93 h44).mono ?_
        rintro e w8 ⟨rfl, k1, k2⟩
        have P8 := Lib.hid (P6.out.move hbl k2 k1)
        clear hr hw h44 h93 k1 k2 P6 HRC
        obtain ⟨d0, d1, d2, d3, d4, _⟩ := cells5 P8.out.box
        obtain ⟨r0, r1, r2, r3, r4, rf⟩ := cells5 P8.out.res
        have rf0 := rf 0; have rf1 := rf 1; have rf2 := rf 2; have rf3 := rf 3; have rf4 := rf 4
        obtain ⟨z0, z1, z2, z3, z4, _⟩ := cells5 (put5_heap (a := .int .i64 5) (b := .bool false) (c := .string ⟨#[]⟩) (d := .slice none 0 0) (e := .slice (some ⟨gg, 0, none⟩) (ks.length + 1) cap) P8.out.res)
        have FIN := Lib.hid (P8.out.fin hbl); have Z := Lib.hid (And.intro z0 (And.intro z1 (And.intro z2 (And.intro z3 z4))))
        clear z0 z1 z2 z3 z4 rf
        go_wp2_with fail
        obtain ⟨z0, z1, z2, z3, z4⟩ := Z.out
        refine bodyPost_ret (v := .agg #[.int .i64 5, .bool false, .string ⟨#[]⟩, .slice none 0 0, .slice (some ⟨gg, 0, none⟩) (ks.length + 1) cap]) (by simp [results, Tryz.results127, go_sem, z0, z1, z2, z3, z4]) rfl ?_
        obtain ⟨f1, f2, f3⟩ := FIN.out
        exact RG.err HRD.out f3 ⟨_, _, rfl, f1⟩ (show (7 : Nat) ≠ 0 by decide) hlp2 f2
end Go.Proofs.YtejlddimokmgjaaGreatDoor
