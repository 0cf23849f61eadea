/- WALKS: the law DslReads. -/
import Derived.Test.YtejlddimokmgjaaGreatDoorYDli
import Derived.Test.YtejlddimokmgjaaGreatDoorYDfb
import Derived.Test.YtejlddimokmgjaaGreatDoorYDft
namespace Go.Proofs.YtejlddimokmgjaaGreatDoor
open Go.RowKit

theorem searchT_few (s : List UInt8) : Dx.count (searchT s).1 ≤ 100 := by
  unfold searchT
  cases h : Dx.search s with
  | error c => exact (show Dx.count (.mk 0 [] [] [] []) ≤ 100 by decide)
  | ok r =>
    obtain ⟨q, f, n⟩ := r
    simp only
    unfold Dx.search at h
    split at h
    · cases h
    · split at h
      · split at h
        · split at h
          · rename_i hc
            injection h with h; injection h with h1 _
            subst h1
            have := hc.2
            unfold Dx.right at this
            simp only [Bool.and_eq_true, decide_eq_true_eq] at this
            exact this.1.1
          · cases h
        · cases h
      · cases h
theorem searchT_parts (s : List UInt8) : ∃ k t a b c f n e, searchT s = (.mk k t a b c, f, n, e) := by
  obtain ⟨⟨k, t, a, b, c⟩, f, n, e⟩ := searchT s
  exact ⟨k, t, a, b, c, f, n, e, rfl⟩
theorem bulkO_length (s : List UInt8) : (bulkO s).length ≤ s.length + 1 := by
  unfold bulkO
  cases h : Dx.bulk s with
  | error n => simp
  | ok l => exact bulk_length h

set_option maxRecDepth 100000 in
set_option maxHeartbeats 4000000 in
theorem reads_out (s : List UInt8) (w : World) (hg : GlbD w) (h8 : 8 ≤ w.heap.size) (h1 : (4000 : Int) < s.length) :
    Calls Tryz.prog 5 #[.string ⟨s.toArray⟩] w (LawPost w) := by
  have HG := Lib.hid hg
  have hss := size_bytes s
  clear hg
  go_enter Tryz.func5, Tryz.ntmps5
  go_wp2_with fail
  refine (shown_calls w HG.out h8).mono ?_
  rintro e w2 ⟨rfl, k⟩
  have K := Lib.hid k
  clear k
  go_wp2_with fail
  go_ret
  exact ⟨rfl, K.out⟩

set_option maxRecDepth 100000 in
set_option maxHeartbeats 8000000 in
theorem reads_main (s : List UInt8) (w : World) (hg : GlbD w) (h8 : 8 ≤ w.heap.size) (h1 : ¬ (4000 : Int) < s.length) :
    Calls Tryz.prog 5 #[.string ⟨s.toArray⟩] w (LawPost w) := by
  have HG := Lib.hid hg
  have hss := size_bytes s
  have HL := Lib.hid (show s.length ≤ 4000 by omega)
  obtain ⟨qk, qt, qa, qb, qc, fr, sz, ec, hsp⟩ := searchT_parts s
  have hcnt := searchT_few s
  rw [hsp] at hcnt
  simp only at hcnt
  obtain ⟨be, hbe⟩ : ∃ x, x = bulkE s := ⟨_, rfl⟩
  obtain ⟨bo, hbo⟩ : ∃ x, x = bulkO s := ⟨_, rfl⟩
  obtain ⟨tt, htt⟩ : ∃ x, x = txtT s := ⟨_, rfl⟩
  obtain ⟨te, hte⟩ : ∃ x, x = txtE s := ⟨_, rfl⟩
  have BOL := Lib.hid (show bo.length ≤ 1000000 by have := bulkO_length s; rw [hbo]; have := HL.out; omega)
  have SP := Lib.hid hsp; have HCNT := Lib.hid hcnt; have BE := Lib.hid hbe; have BO := Lib.hid hbo; have TT := Lib.hid htt; have TE := Lib.hid hte
  clear hg hsp hcnt hbe hbo htt hte
  go_enter Tryz.func5, Tryz.ntmps5
  go_wp2_with fail
  refine (shown_calls w HG.out h8).mono ?_
  rintro e w1 ⟨rfl, k⟩
  have B1 := Lib.hid k
  clear k
  go_wp2_with fail
  refine (search_calls s w1 (HG.out.below B1.out).1 (Nat.le_trans h8 B1.out.size)).mono ?_
  rintro e w2 ⟨cs, rfl, hq, hb⟩
  rw [SP.out] at hq ⊢
  simp only at hq ⊢
  obtain ⟨sa, sb, sc, rfl, ra, rb, rc⟩ := hq.rows
  obtain ⟨aa, ca, rfl⟩ := ra.shape
  obtain ⟨ab, cb, rfl⟩ := rb.shape
  obtain ⟨ac, cc, rfl⟩ := rc.shape
  obtain ⟨g2, hg2⟩ : ∃ g, g = w2.heap.size := ⟨_, rfl⟩
  obtain ⟨x2, hx2⟩ : ∃ x, x = w2.alloc (.cells #[.int .i64 qk, .string ⟨qt.toArray⟩, .slice aa qa.length ca, .slice ab qb.length cb, .slice ac qc.length cc] 26) := ⟨_, rfl⟩
  have c2 : Below w2.heap.size w2 x2 := by rw [hx2]; exact (Below.refl _ _).alloc (Nat.le_refl _) _
  have P2 := Lib.hid (show x2.heap[g2]? = some (.cells #[.int .i64 qk, .string ⟨qt.toArray⟩, .slice aa qa.length ca, .slice ab qb.length cb, .slice ac qc.length cc] 26 (0, 0)) by rw [hx2, hg2]; exact heap_alloc_new w2 _)
  have Q2 := Lib.hid (hq.all.below c2).all
  have B2 := Lib.hid (B1.out.trans ((hb.trans (c2.mono hb.size)).mono B1.out.size))
  have HX := Lib.hid (And.intro hg2 hx2)
  clear hq ra rb rc hb c2 hg2 hx2 B1
  go_upto_region 5 with fail
  rw [← HX.out.1, ← HX.out.2]
  clear HX
  go_wp2_with fail
  refine (rsearch_calls s x2 (by have := HL.out; unfold maxLen; omega)).mono ?_
  rintro e w3 ⟨cs, rfl, hq, hb⟩
  rw [SP.out] at hq ⊢
  simp only at hq ⊢
  obtain ⟨ta, tb, tc, rfl, ra, rb, rc⟩ := hq.rows
  obtain ⟨ba, da, rfl⟩ := ra.shape
  obtain ⟨bb, db, rfl⟩ := rb.shape
  obtain ⟨bc, dc, rfl⟩ := rc.shape
  obtain ⟨g3, hg3⟩ : ∃ g, g = w3.heap.size := ⟨_, rfl⟩
  obtain ⟨x3, hx3⟩ : ∃ x, x = w3.alloc (.cells #[.int .i64 qk, .string ⟨qt.toArray⟩, .slice ba qa.length da, .slice bb qb.length db, .slice bc qc.length dc] 26) := ⟨_, rfl⟩
  have c3 : Below w3.heap.size w3 x3 := by rw [hx3]; exact (Below.refl _ _).alloc (Nat.le_refl _) _
  have R3 := Lib.hid (show x3.heap[g3]? = some (.cells #[.int .i64 qk, .string ⟨qt.toArray⟩, .slice ba qa.length da, .slice bb qb.length db, .slice bc qc.length dc] 26 (0, 0)) by rw [hx3, hg3]; exact heap_alloc_new w3 _)
  have S3 := Lib.hid (hq.all.below c3).all
  have k3 := hb.trans (c3.mono hb.size)
  have P3 := Lib.hid ((k3.block _ (heap_lt P2.out)).trans P2.out)
  have Q3 := Lib.hid (Q2.out.below k3).all
  have B3 := Lib.hid (B2.out.trans (k3.mono B2.out.size))
  have HX := Lib.hid (And.intro hg3 hx3)
  clear hq ra rb rc hb c3 k3 hg3 hx3 B2 P2 Q2
  go_upto_region 6 with fail
  rw [← HX.out.1, ← HX.out.2]
  clear HX
  go_wp2_with fail
  refine (bulk_calls s x3 (HG.out.below B3.out) (Nat.le_trans h8 B3.out.size) (by have := HL.out; omega)).mono ?_
  rintro e w4 ⟨v1, rfl, o1, hb⟩
  rw [← BO.out] at o1
  rw [← BE.out]
  obtain ⟨a1, c1, rfl⟩ := ORow.shape o1
  have O4 := Lib.hid (ORow.all o1)
  have P4 := Lib.hid ((hb.block _ (heap_lt P3.out)).trans P3.out)
  have R4 := Lib.hid ((hb.block _ (heap_lt R3.out)).trans R3.out)
  have Q4 := Lib.hid (Q3.out.below hb).all
  have S4 := Lib.hid (S3.out.below hb).all
  have B4 := Lib.hid (B3.out.trans (hb.mono B3.out.size))
  clear o1 hb B3 P3 R3 Q3 S3
  go_wp2_with fail
  refine (rbulk_calls s w4 (by have := HL.out; omega)).mono ?_
  rintro e w5 ⟨v2, rfl, o2, hb⟩
  rw [← BO.out] at o2
  rw [← BE.out]
  obtain ⟨a2, c2, rfl⟩ := ORow.shape o2
  have U5 := Lib.hid (ORow.all o2)
  have O5 := Lib.hid (ORow.all (O4.out.below hb))
  have P5 := Lib.hid ((hb.block _ (heap_lt P4.out)).trans P4.out)
  have R5 := Lib.hid ((hb.block _ (heap_lt R4.out)).trans R4.out)
  have Q5 := Lib.hid (Q4.out.below hb).all
  have S5 := Lib.hid (S4.out.below hb).all
  have B5 := Lib.hid (B4.out.trans (hb.mono B4.out.size))
  clear o2 hb B4 P4 R4 Q4 S4 O4
  go_wp2_with fail
  refine (dtextB_calls s w5 (HG.out.below B5.out).1 (Nat.le_trans h8 B5.out.size)).mono ?_
  rintro e w6 ⟨rfl, hb⟩
  rw [← TT.out, ← TE.out]
  have k6 := Lib.hid hb
  have B6 := Lib.hid (B5.out.trans (hb.mono B5.out.size))
  clear hb
  go_wp2_with fail
  refine (rtextB_calls s w6 (by have := HL.out; unfold maxLen; omega)).mono ?_
  rintro e w7 ⟨rfl, hb⟩
  rw [← TT.out, ← TE.out]
  have k7 := k6.out.trans (hb.mono k6.out.size)
  have U7 := Lib.hid (ORow.all (U5.out.below k7))
  have O7 := Lib.hid (ORow.all (O5.out.below k7))
  have P7 := Lib.hid ((k7.block _ (heap_lt P5.out)).trans P5.out)
  have R7 := Lib.hid ((k7.block _ (heap_lt R5.out)).trans R5.out)
  have Q7 := Lib.hid (Q5.out.below k7).all
  have S7 := Lib.hid (S5.out.below k7).all
  have B7 := Lib.hid (B5.out.trans (k7.mono B5.out.size))
  clear hb k6 k7 B5 P5 R5 Q5 S5 O5 U5 B6
  obtain ⟨y0, y1, y2, y3, y4, _⟩ := cells5 P7.out
  obtain ⟨z0, z1, z2, z3, z4, _⟩ := cells5 R7.out
  go_wp2_with fail
  refine (sameQ_calls 100 (.mk qk qt qa qb qc) (.mk qk qt qa qb qc) [.int .i64 qk, .string ⟨qt.toArray⟩, .slice aa qa.length ca, .slice ab qb.length cb, .slice ac qc.length cc] [.int .i64 qk, .string ⟨qt.toArray⟩, .slice ba qa.length da, .slice bb qb.length db, .slice bc qc.length dc] w7 _ HCNT.out (Nat.le_trans HCNT.out (by decide)) Q7.out S7.out).mono ?_
  rintro e w8 ⟨r, rfl, hr, hb⟩
  obtain rfl : r = true := hr.2 rfl
  have U8 := Lib.hid (ORow.all (U7.out.below hb))
  have O8 := Lib.hid (ORow.all (O7.out.below hb))
  have B8 := Lib.hid (B7.out.trans (hb.mono B7.out.size))
  clear hr hb y0 y1 y2 y3 y4 z0 z1 z2 z3 z4 P7 R7 Q7 S7 B7 U7 O7
  go_wp2_with fail
  refine (sameOps_calls bo bo _ _ w8 _ _ BOL.out O8.out U8.out).mono ?_
  rintro e w9 ⟨r, rfl, hr, hb⟩
  obtain rfl : r = true := hr.2 rfl
  have B9 := Lib.hid (B8.out.trans (hb.mono B8.out.size))
  clear hr hb
  go_wp2_with fail
  go_ret
  exact ⟨rfl, B9.out⟩

theorem dslReads_calls (s : List UInt8) (w : World) (hg : GlbD w) (h8 : 8 ≤ w.heap.size) :
    Calls Tryz.prog 5 #[.string ⟨s.toArray⟩] w (LawPost w) := by
  by_cases h1 : (4000 : Int) < s.length
  · exact reads_out s w hg h8 h1
  · exact reads_main s w hg h8 h1
end Go.Proofs.YtejlddimokmgjaaGreatDoor
