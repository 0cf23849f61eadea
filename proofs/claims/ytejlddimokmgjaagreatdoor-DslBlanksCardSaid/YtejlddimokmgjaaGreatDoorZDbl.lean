/- WALKS: the law DslBlanks. -/
import Derived.Test.YtejlddimokmgjaaGreatDoorZDpg
import Derived.Test.YtejlddimokmgjaaGreatDoorGc
import Derived.Deep.RegionHeld3
namespace Go.Proofs.YtejlddimokmgjaaGreatDoor
open Go.RowKit

theorem searchT_count (s : List UInt8) : Dx.count (searchT s).1 ≤ 100 := by
  unfold searchT
  cases h : Dx.search s with
  | error c => exact (show Dx.count (.mk 0 [] [] [] []) ≤ 100 by decide)
  | ok r =>
    obtain ⟨q, f, n⟩ := r
    simp only
    unfold Dx.search at h
    split at h
    · cases h
    · split at h
      · split at h
        · split at h
          · rename_i hc
            injection h with h; injection h with h1 _
            subst h1
            have := hc.2
            unfold Dx.right at this
            simp only [Bool.and_eq_true, decide_eq_true_eq] at this
            exact this.1.1
          · cases h
        · cases h
      · cases h
theorem searchT_split (s : List UInt8) : ∃ k t a b c f n e, searchT s = (.mk k t a b c, f, n, e) := by
  obtain ⟨⟨k, t, a, b, c⟩, f, n, e⟩ := searchT s
  exact ⟨k, t, a, b, c, f, n, e, rfl⟩

set_option maxRecDepth 100000 in
set_option maxHeartbeats 4000000 in
theorem blanks_out (s : List UInt8) (w : World) (hg : GlbD w) (h8 : 8 ≤ w.heap.size) (h1 : (4000 : Int) < s.length) :
    Calls Tryz.prog 7 #[.string ⟨s.toArray⟩] w (LawPost w) := by
  have HG := Lib.hid hg
  have hss := size_bytes s
  clear hg
  go_enter Tryz.func7, Tryz.ntmps7
  go_wp2_with fail
  refine (shown_calls w HG.out h8).mono ?_
  rintro e w2 ⟨rfl, k⟩
  have K := Lib.hid k
  clear k
  go_wp2_with fail
  go_ret
  exact ⟨rfl, K.out⟩

set_option maxRecDepth 100000 in
set_option maxHeartbeats 4000000 in
theorem blanks_bad (s : List UInt8) (er : Nat × Nat) (w : World) (hg : GlbD w) (h8 : 8 ≤ w.heap.size) (h1 : ¬ (4000 : Int) < s.length) (hp : Cx.parse s = .error er) :
    Calls Tryz.prog 7 #[.string ⟨s.toArray⟩] w (LawPost w) := by
  have HG := Lib.hid hg
  have hss := size_bytes s
  have hne := Cx.parse_errne hp
  have hei : ((er.1 : Int) != 0) = true := by rw [bne_iff_ne]; omega
  have PT := Lib.hid (parseT_error hp); have ST := Lib.hid (searchT_error (search_form hp))
  clear hg hp hne
  go_enter Tryz.func7, Tryz.ntmps7
  go_wp2_with fail
  refine (shown_calls w HG.out h8).mono ?_
  rintro e w1 ⟨rfl, k⟩
  have B1 := Lib.hid k
  clear k
  go_wp2_with fail
  refine (parse_callsL s w1 (HG.out.below B1.out).1 (Nat.le_trans h8 B1.out.size)).mono ?_
  rintro e w2 ⟨cs, rfl, hj, hb⟩
  rw [PT.out] at hj ⊢
  obtain ⟨b, nb, b', kb, rfl⟩ := hj.shape
  have B2 := Lib.hid (show Below w.heap.size w (w2.alloc (.cells #[.int .i64 0, .bool false, .string ⟨#[]⟩, .slice b 0 nb, .slice b' 0 kb] 48)) from by
    have h := B1.out.trans (hb.mono B1.out.size)
    exact h.alloc h.size _)
  clear hj hb B1
  simp only
  go_wp2_with fail
  refine (search_calls s _ (HG.out.below B2.out).1 (Nat.le_trans h8 B2.out.size)).mono ?_
  rintro e w3 ⟨cs, rfl, hq, hb⟩
  rw [ST.out] at hq ⊢
  obtain ⟨sa, sb, sc, rfl, ra, rb, rc⟩ := hq.rows
  obtain ⟨aa, ca, rfl⟩ := ra.shape
  obtain ⟨ab, cb, rfl⟩ := rb.shape
  obtain ⟨ac, cc, rfl⟩ := rc.shape
  have B3 := Lib.hid (B2.out.trans (hb.mono B2.out.size))
  clear hq hb ra rb rc B2
  simp only
  go_wp2_with fail
  go_ret
  exact ⟨rfl, B3.out.alloc B3.out.size _⟩

set_option maxRecDepth 100000 in
set_option maxHeartbeats 8000000 in
theorem blanks_main (s : List UInt8) (v : Cx.J) (w : World) (hg : GlbD w) (h8 : 8 ≤ w.heap.size) (h1 : ¬ (4000 : Int) < s.length) (hp : Cx.parse s = .ok v) :
    Calls Tryz.prog 7 #[.string ⟨s.toArray⟩] w (LawPost w) := by
  have HG := Lib.hid hg
  have hss := size_bytes s
  have hl : s.length ≤ 4000 := by omega
  have PT := Lib.hid (parseT_ok hp); have F := Lib.hid (parse_fits hp)
  have hpv : Cx.print v = Cx.pr v := by unfold Cx.print; rw [if_pos (Cx.parse_right hp)]
  obtain ⟨PB, hPB⟩ : ∃ PB : ByteArray, PB = ⟨(Cx.print v).toArray⟩ := ⟨_, rfl⟩
  have HPB := Lib.hid hPB
  have hsz : PB.size ≤ 24000 := by rw [hPB, hpv, size_bytes]; exact Dx.pr_short hp hl
  obtain ⟨S2, hS2⟩ : ∃ S, S = 9 :: (Cx.pr v ++ [13, 10]) := ⟨_, rfl⟩
  have hs2 := Dx.blanks_search hp hl
  rw [← hS2] at hs2
  have hc2 : (((⟨#[9]⟩ : ByteArray) ++ PB) ++ ⟨#[13, 10]⟩) = ⟨S2.toArray⟩ := by rw [hPB, hpv, hS2]; simp [ByteArray.ext_iff, ByteArray.data_append]
  have hST : searchT S2 = searchT s := by unfold searchT; rw [hs2]
  obtain ⟨S3, hS3⟩ : ∃ S, S = Cx.pr v ++ ([13, 10, 13, 10, 10] ++ Cx.pr v) := ⟨_, rfl⟩
  have hbb := Dx.blanks_bulk hp hl
  rw [← hS3] at hbb
  have hc3 : ((PB ++ ⟨#[13, 10, 13, 10, 10]⟩) ++ PB : ByteArray) = ⟨S3.toArray⟩ := by rw [hPB, hpv, hS3]; simp [ByteArray.ext_iff, ByteArray.data_append]
  have hc4 : PB = ⟨(Cx.pr v).toArray⟩ := by rw [hPB, hpv]
  have hl3 : S3.length ≤ 1000000 := by rw [hS3]; have := Dx.pr_short hp hl; simp; omega
  have hl4 : (Cx.pr v).length ≤ 1000000 := by have := Dx.pr_short hp hl; omega
  obtain ⟨R, hR⟩ : ∃ R : Nat × Nat, R = (match Dx.op v with | none => (18, 0) | some _ => (0, 1)) := ⟨_, rfl⟩
  have hr2 : R.1 = 18 ∨ (R.1 = 0 ∧ R.2 = 1) := by rw [hR]; cases Dx.op v <;> simp
  have hbA : bulkE (Cx.pr v) = R.1 ∧ (bulkO (Cx.pr v)).length = R.2 := by
    unfold bulkE bulkO; rw [hbb.1, hR]; cases Dx.op v <;> exact ⟨rfl, rfl⟩
  have hbB : bulkE S3 = R.1 ∧ (bulkO S3).length = 2 * R.2 := by
    unfold bulkE bulkO; rw [hbb.2, hR]; cases Dx.op v <;> exact ⟨rfl, rfl⟩
  obtain ⟨qk, qt, qa, qb, qc, fr, sz, ec, hsp⟩ := searchT_split s
  have hcnt := searchT_count s
  rw [hsp] at hcnt hST
  simp only at hcnt
  have SP := Lib.hid hsp; have ST2 := Lib.hid hST; have HC2 := Lib.hid hc2; have HC3 := Lib.hid hc3; have HC4 := Lib.hid hc4; have BA := Lib.hid hbA; have BB := Lib.hid hbB; have HCNT := Lib.hid hcnt
  have HR2 := Lib.hid hr2; have HL3 := Lib.hid hl3; have HL4 := Lib.hid hl4
  clear hg hp hpv hPB hS2 hs2 hc2 hST hS3 hbb hc3 hc4 hl3 hl4 hR hr2 hbA hbB hsp hcnt
  go_enter Tryz.func7, Tryz.ntmps7
  go_wp2_with fail
  refine (shown_calls w HG.out h8).mono ?_
  rintro e w1 ⟨rfl, k⟩
  have B1 := Lib.hid k
  clear k
  go_wp2_with fail
  refine (parse_callsL s w1 (HG.out.below B1.out).1 (Nat.le_trans h8 B1.out.size)).mono ?_
  rintro e w2 ⟨cs, rfl, hj, hb⟩
  rw [PT.out] at hj ⊢
  simp only at hj ⊢
  obtain ⟨V, hV⟩ : ∃ V, V = v := ⟨_, rfl⟩
  rw [← hV] at HPB F
  cases v with
  | mk k is t ns ks =>
  obtain ⟨a, nc, a', kc, rfl⟩ := hj.shape
  rw [← hV] at hj
  obtain ⟨g, hg⟩ : ∃ g, g = w2.heap.size := ⟨_, rfl⟩
  obtain ⟨x, hx⟩ : ∃ x, x = w2.alloc (.cells #[.int .i64 k, .bool is, .string ⟨t.toArray⟩, .slice a ns.length nc, .slice a' ks.length kc] 48) := ⟨_, rfl⟩
  have c2 : Below w2.heap.size w2 x := by rw [hx]; exact (Below.refl _ _).alloc (Nat.le_refl _) _
  have BV := Lib.hid (show x.heap[g]? = some (.cells #[.int .i64 k, .bool is, .string ⟨t.toArray⟩, .slice a ns.length nc, .slice a' ks.length kc] 48 (0, 0)) by rw [hx, hg]; exact heap_alloc_new w2 _)
  have J := Lib.hid (hj.all.below c2).all
  have B2 := Lib.hid (B1.out.trans ((hb.trans (c2.mono hb.size)).mono B1.out.size))
  have HX8 := Lib.hid (Nat.le_trans h8 B2.out.size)
  clear hj hb c2 B1 hV PT
  have CP := Lib.hid (show ∀ wq, Below x.heap.size x wq → Calls Tryz.prog 24 #[.agg #[.int .i64 k, .bool is, .string ⟨t.toArray⟩, .slice a ns.length nc, .slice a' ks.length kc]] wq fun e w' => e = .returned (.string PB) ∧ Below wq.heap.size wq w' from fun wq hq =>
    (print_calls V [.int .i64 k, .bool is, .string ⟨t.toArray⟩, .slice a ns.length nc, .slice a' ks.length kc] wq _ (J.out.below hq) F.out (HG.out.below (B2.out.trans (hq.mono B2.out.size))).1 (Nat.le_trans HX8.out hq.size)).mono fun e w' h => ⟨by rw [HPB.out]; exact h.1, h.2⟩)
  go_wp2_with fail
  rw [← hg, ← hx]
  clear hg hx
  refine (search_calls s x (HG.out.below B2.out).1 HX8.out).mono ?_
  rintro e w3 ⟨cs, rfl, hq, hb⟩
  rw [SP.out] at hq ⊢
  simp only at hq ⊢
  obtain ⟨sa, sb, sc, rfl, ra, rb, rc⟩ := hq.rows
  obtain ⟨aa, ca, rfl⟩ := ra.shape
  obtain ⟨ab, cb, rfl⟩ := rb.shape
  obtain ⟨ac, cc, rfl⟩ := rc.shape
  obtain ⟨g3, hg3⟩ : ∃ g, g = w3.heap.size := ⟨_, rfl⟩
  obtain ⟨x3, hx3⟩ : ∃ x, x = w3.alloc (.cells #[.int .i64 qk, .string ⟨qt.toArray⟩, .slice aa qa.length ca, .slice ab qb.length cb, .slice ac qc.length cc] 26) := ⟨_, rfl⟩
  have c3 : Below w3.heap.size w3 x3 := by rw [hx3]; exact (Below.refl _ _).alloc (Nat.le_refl _) _
  have P3 := Lib.hid (show QBox g3 qk qt (.slice aa qa.length ca) (.slice ab qb.length cb) (.slice ac qc.length cc) x3 by rw [hx3, hg3]; exact heap_alloc_new w3 _)
  have Q3 := Lib.hid (hq.all.below c3).all
  have X3 := Lib.hid (hb.trans (c3.mono hb.size))
  have BV3 := Lib.hid ((X3.out.block g (heap_lt BV.out)).trans BV.out)
  clear hq ra rb rc hb c3
  obtain ⟨y0, y1, y2, y3, y4, _⟩ := cells5 BV3.out
  go_upto_region 6 with fail
  rw [← hg3, ← hx3]
  clear hg3 hx3
  go_wp2_with fail
  refine (CP.out x3 X3.out).mono ?_
  rintro e w4 ⟨rfl, hb⟩
  have P4 := Lib.hid (P3.out.below hb)
  have Q4 := Lib.hid (Q3.out.below hb).all
  have X4 := Lib.hid (X3.out.trans (hb.mono X3.out.size))
  have BV4 := Lib.hid ((X4.out.block g (heap_lt BV.out)).trans BV.out)
  clear hb y0 y1 y2 y3 y4 P3 Q3 X3 BV3
  have z1 : ¬ 9223372036854775807 < 1 + PB.size := by omega
  have z2 : ¬ 9223372036854775807 < 1 + PB.size + 2 := by omega
  go_wp2_with fail
  clear z1 z2
  rw [HC2.out]
  refine (search_calls S2 w4 (HG.out.below (B2.out.trans (X4.out.mono B2.out.size))).1 (Nat.le_trans HX8.out X4.out.size)).mono ?_
  rintro e w5 ⟨cs, rfl, hq, hb⟩
  rw [ST2.out] at hq ⊢
  simp only at hq ⊢
  obtain ⟨ta, tb, tc, rfl, ra, rb, rc⟩ := hq.rows
  obtain ⟨ba, da, rfl⟩ := ra.shape
  obtain ⟨bb, db, rfl⟩ := rb.shape
  obtain ⟨bc, dc, rfl⟩ := rc.shape
  obtain ⟨g5, hg5⟩ : ∃ g, g = w5.heap.size := ⟨_, rfl⟩
  obtain ⟨x5, hx5⟩ : ∃ x, x = w5.alloc (.cells #[.int .i64 qk, .string ⟨qt.toArray⟩, .slice ba qa.length da, .slice bb qb.length db, .slice bc qc.length dc] 26) := ⟨_, rfl⟩
  have c5 : Below w5.heap.size w5 x5 := by rw [hx5]; exact (Below.refl _ _).alloc (Nat.le_refl _) _
  have c45 := hb.trans (c5.mono hb.size)
  have P5 := Lib.hid (show QBox g5 qk qt (.slice ba qa.length da) (.slice bb qb.length db) (.slice bc qc.length dc) x5 by rw [hx5, hg5]; exact heap_alloc_new w5 _)
  have Q5 := Lib.hid (hq.all.below c5).all
  have P6 := Lib.hid (P4.out.below c45)
  have Q6 := Lib.hid (Q4.out.below c45).all
  have X5 := Lib.hid (X4.out.trans (c45.mono X4.out.size))
  have BV5 := Lib.hid ((X5.out.block g (heap_lt BV.out)).trans BV.out)
  clear hq ra rb rc hb c5 c45 P4 Q4 X4 BV4
  obtain ⟨y0, y1, y2, y3, y4, _⟩ := cells5 P5.out
  obtain ⟨u0, u1, u2, u3, u4, _⟩ := cells5 P6.out
  go_upto_region 9 with fail
  rw [← hg5, ← hx5]
  clear hg5 hx5
  go_wp2_with fail
  refine (sameQ_calls 100 (.mk qk qt qa qb qc) (.mk qk qt qa qb qc) [.int .i64 qk, .string ⟨qt.toArray⟩, .slice ba qa.length da, .slice bb qb.length db, .slice bc qc.length dc] [.int .i64 qk, .string ⟨qt.toArray⟩, .slice aa qa.length ca, .slice ab qb.length cb, .slice ac qc.length cc] x5 _ HCNT.out (Nat.le_trans HCNT.out (by decide)) Q5.out Q6.out).mono ?_
  rintro e w6 ⟨r, rfl, hr, hb⟩
  obtain rfl : r = true := hr.2 rfl
  have X6 := Lib.hid (X5.out.trans (hb.mono X5.out.size))
  have BV6 := Lib.hid ((X6.out.block g (heap_lt BV.out)).trans BV.out)
  clear hr hb y0 y1 y2 y3 y4 u0 u1 u2 u3 u4 P5 P6 Q5 Q6 X5 BV5
  obtain ⟨y0, y1, y2, y3, y4, _⟩ := cells5 BV6.out
  go_wp2_with fail
  refine (CP.out w6 X6.out).mono ?_
  rintro e w7 ⟨rfl, hb⟩
  have X7 := Lib.hid (X6.out.trans (hb.mono X6.out.size))
  have BV7 := Lib.hid ((X7.out.block g (heap_lt BV.out)).trans BV.out)
  clear hb y0 y1 y2 y3 y4 X6 BV6
  go_wp2_with fail
  rw [HC4.out]
  refine (bulk_calls (Cx.pr (.mk k is t ns ks)) w7 (HG.out.below (B2.out.trans (X7.out.mono B2.out.size))) (Nat.le_trans HX8.out X7.out.size) HL4.out).mono ?_
  rw [← HC4.out]
  rintro e x8 ⟨sv, rfl, ho, hb⟩
  obtain ⟨a8, c8, rfl⟩ := ORow.shape ho
  have X8 := Lib.hid (X7.out.trans (hb.mono X7.out.size))
  have BV8 := Lib.hid ((X8.out.block g (heap_lt BV.out)).trans BV.out)
  rw [BA.out.1, BA.out.2]
  clear ho hb X7 BV7
  obtain ⟨y0, y1, y2, y3, y4, _⟩ := cells5 BV8.out
  have z1 : ¬ 9223372036854775807 < PB.size + 5 := by omega
  have z2 : ¬ 9223372036854775807 < PB.size + 5 + PB.size := by omega
  have CPb := Lib.hid (show ∀ wq, Below x8.heap.size x8 wq → Calls Tryz.prog 24 #[.agg #[.int .i64 k, .bool is, .string ⟨t.toArray⟩, .slice a ns.length nc, .slice a' ks.length kc]] wq fun e w' => e = .returned (.string PB) ∧ Below x8.heap.size x8 w' from fun wq hq =>
    (CP.out wq (X8.out.trans (hq.mono X8.out.size))).mono fun e w' h => ⟨h.1, hq.trans (h.2.mono hq.size)⟩)
  have CB := Lib.hid (show ∀ wq, Below x8.heap.size x8 wq → Calls Tryz.prog 12 #[.string ((PB ++ ⟨#[13, 10, 13, 10, 10]⟩) ++ PB : ByteArray)] wq fun e w' => ∃ a c, e = .returned (.tuple #[.slice a (2 * R.2) c, .int .i64 R.1]) ∧ Below x8.heap.size x8 w' from fun wq hq => by
    rw [HC3.out]
    refine (bulk_calls S3 wq (HG.out.below (B2.out.trans ((X8.out.trans (hq.mono X8.out.size)).mono B2.out.size))) (Nat.le_trans HX8.out (X8.out.trans (hq.mono X8.out.size)).size) HL3.out).mono ?_
    rintro e w' ⟨sv, rfl, ho, hb⟩
    obtain ⟨a9, c9, rfl⟩ := ORow.shape ho
    exact ⟨a9, c9, by rw [BB.out.1, BB.out.2], hq.trans (hb.mono hq.size)⟩)
  have TW := (Below.refl x8.heap.size x8).drew
  have KEEP := Lib.hid (show ∀ wq, Below x8.heap.size x8 wq → wq.cell? ⟨g, 0, none⟩ = some (.int .i64 k) ∧ wq.cell? ⟨g, 1, none⟩ = some (.bool is) ∧ wq.cell? ⟨g, 2, none⟩ = some (.string ⟨t.toArray⟩) ∧ wq.cell? ⟨g, 3, none⟩ = some (.slice a ns.length nc) ∧ wq.cell? ⟨g, 4, none⟩ = some (.slice a' ks.length kc) from fun wq hq => by
    obtain ⟨e0, e1, e2, e3, e4, _⟩ := cells5 ((hq.block g (heap_lt BV8.out)).trans BV8.out)
    exact ⟨e0, e1, e2, e3, e4⟩)
  have W8 := Lib.hid (B2.out.trans (X8.out.mono B2.out.size))
  clear CP BV8 X8 y0 y1 y2 y3 y4
  go_wp2_with fail
  go_region_held3 (fun w' => w'.cell? ⟨g, 0, none⟩ = some (.int .i64 k) ∧ w'.cell? ⟨g, 1, none⟩ = some (.bool is) ∧ w'.cell? ⟨g, 2, none⟩ = some (.string ⟨t.toArray⟩) ∧ w'.cell? ⟨g, 3, none⟩ = some (.slice a ns.length nc) ∧ w'.cell? ⟨g, 4, none⟩ = some (.slice a' ks.length kc)) (exact KEEP.out _ ‹Below x8.heap.size x8 _›)
    (first
      | (go_at_call 24; refine (CPb.out _ ‹Below x8.heap.size x8 _›).mono ?_; rintro e w9 ⟨rfl, hb9⟩)
      | (go_at_call 12; refine (CB.out _ ‹Below x8.heap.size x8 _›).mono ?_; rintro e w9 ⟨a9, c9, rfl, hb9⟩))
  have WF := Lib.hid (W8.out.trans (hb9.mono W8.out.size))
  clear TW hb9 KEEP CPb CB W8
  obtain ⟨r1, r2⟩ := R
  have hr := HR2.out
  simp only at hr ⊢
  clear HR2 BB BA z1 z2
  rcases hr with rfl | ⟨rfl, rfl⟩
  · go_wp2_with fail
    go_ret
    exact ⟨rfl, WF.out⟩
  · go_wp2_with fail
    go_ret
    exact ⟨rfl, WF.out⟩
theorem dslBlanks_calls (s : List UInt8) (w : World) (hg : GlbD w) (h8 : 8 ≤ w.heap.size) :
    Calls Tryz.prog 7 #[.string ⟨s.toArray⟩] w (LawPost w) := by
  by_cases h1 : (4000 : Int) < s.length
  · exact blanks_out s w hg h8 h1
  · cases hp : Cx.parse s with
    | error er => exact blanks_bad s er w hg h8 h1 hp
    | ok v => exact blanks_main s v w hg h8 h1 hp
end Go.Proofs.YtejlddimokmgjaaGreatDoor
