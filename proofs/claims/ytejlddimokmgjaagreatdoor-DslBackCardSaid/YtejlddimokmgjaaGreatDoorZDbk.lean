/- WALKS: the law DslBack. -/
import Derived.Test.YtejlddimokmgjaaGreatDoorZDtw
import Derived.Test.YtejlddimokmgjaaGreatDoorZDsd
import Derived.Test.YtejlddimokmgjaaGreatDoorZDdo
import Derived.Test.YtejlddimokmgjaaGreatDoorZDli
namespace Go.Proofs.YtejlddimokmgjaaGreatDoor
open Go.RowKit

def keepOp (o : Dx.Op) : Bool := decide (o.id.length ≤ 300) && (decide (o.text.length ≤ 1000) && (Cx.valid o.id && Cx.valid o.text))
theorem keep_ok {o : Dx.Op} (h : keepOp o = true) : Dx.okOp o := by
  unfold keepOp at h
  simp only [Bool.and_eq_true, decide_eq_true_eq] at h
  exact ⟨h.2.2.1, h.2.2.2, h.1, h.2.1⟩
theorem keep_next {o : Dx.Op} {l : List Dx.Op} {i : Nat} (h : l[i]? = some o) : (l.take (i + 1)).filter keepOp = (l.take i).filter keepOp ++ (if keepOp o = true then [o] else []) := by
  rw [List.take_add_one, h, List.filter_append]
  simp [List.filter_cons]
theorem keep_all {l : List Dx.Op} : ∀ o ∈ l.filter keepOp, Dx.okOp o := fun _ ho => keep_ok (List.mem_filter.1 ho).2

set_option maxRecDepth 100000 in
set_option maxHeartbeats 8000000 in
theorem back_main (out : Bool) (q : Dx.Qy) (cs : List Value) (l : List Dx.Op) (la : Option Addr) (lc : Nat) (w : World) (ok ok2 : Nat → Prop) (hg : GlbD w) (h8 : 8 ≤ w.heap.size) (hf : Dx.qfit maxLen q) (hj : QyAt w ok q cs) (hm : ∀ o ∈ l, o.id.length ≤ maxLen ∧ o.text.length ≤ maxLen) (hr : ORow w ok2 (.slice la l.length lc) l)
    (ho : (out = true ↔ (lightQ q = false ∨ 60 < l.length))) :
    Calls Tryz.prog 8 #[.agg cs.toArray, .slice la l.length lc] w (LawPost w) := by
  obtain ⟨Q, hQ⟩ : ∃ Q, Q = q := ⟨_, rfl⟩
  obtain ⟨k, t, a, b, c⟩ := q
  obtain ⟨sa, sb, sc, rfl, ra, rb, rc⟩ := hj.all.rows
  obtain ⟨aa, ca, rfl⟩ := ra.shape
  obtain ⟨ab, cb, rfl⟩ := rb.shape
  obtain ⟨ac, cc, rfl⟩ := rc.shape
  rw [← hQ] at hj hf ho
  have J := Lib.hid hj.all; have HF := Lib.hid hf; have HG := Lib.hid hg; have HM := Lib.hid hm; have ROW := Lib.hid hr.all; have HO := Lib.hid ho
  obtain ⟨W, hW⟩ : ∃ W, W = w.alloc (.cells #[.int .i64 k, .string ⟨t.toArray⟩, .slice aa a.length ca, .slice ab b.length cb, .slice ac c.length cc] 26) := ⟨_, rfl⟩
  have B0 := Lib.hid (show Below w.heap.size w W by rw [hW]; exact (Below.refl _ _).alloc (Nat.le_refl _) _)
  have BQ := Lib.hid (show QBox w.heap.size k t (.slice aa a.length ca) (.slice ab b.length cb) (.slice ac c.length cc) W by rw [hW]; exact heap_alloc_new w _)
  have HW := Lib.hid hW
  obtain ⟨LQ, hLQ⟩ : ∃ x, x = lightQ Q := ⟨_, rfl⟩
  obtain ⟨R, hR⟩ : ∃ x, x = Dx.right Q := ⟨_, rfl⟩
  have HLQ := Lib.hid hLQ; have HR := Lib.hid hR; have HQE := Lib.hid hQ
  clear hQ ra rb rc hj hf hg hm hr ho hW hLQ hR
  go_enter Tryz.func8, Tryz.ntmps8
  go_upto_region 1 with fail
  rw [← HW.out]
  clear HW
  go_wp2_with fail
  refine (shown_calls W (HG.out.below B0.out) (Nat.le_trans h8 B0.out.size)).mono ?_
  rintro e w1 ⟨rfl, kb⟩
  have B1 := Lib.hid (B0.out.trans (kb.mono B0.out.size))
  have BQ1 := Lib.hid (BQ.out.below kb)
  clear kb B0 BQ
  obtain ⟨q0, q1, q2, q3, q4, _⟩ := cells5 BQ1.out
  go_wp2_with fail
  refine (light_calls Q [.int .i64 k, .string ⟨t.toArray⟩, .slice aa a.length ca, .slice ab b.length cb, .slice ac c.length cc] w1 _ (J.out.below B1.out)).mono ?_
  rw [← HLQ.out]
  rintro e w2 ⟨rfl, kb⟩
  have B2 := Lib.hid (B1.out.trans (kb.mono B1.out.size))
  have BQ2 := Lib.hid (BQ1.out.below kb)
  clear kb B1 BQ1 q0 q1 q2 q3 q4
  obtain ⟨q0, q1, q2, q3, q4, _⟩ := cells5 BQ2.out
  go_wp2_with fail
  refine (rRight_calls Q [.int .i64 k, .string ⟨t.toArray⟩, .slice aa a.length ca, .slice ab b.length cb, .slice ac c.length cc] w2 _ HF.out (J.out.below B2.out)).mono ?_
  rw [← HR.out]
  rintro e w3 ⟨rfl, kb⟩
  have B3 := Lib.hid (B2.out.trans (kb.mono B2.out.size))
  have BQ3 := Lib.hid (BQ2.out.below kb)
  clear kb B2 BQ2 q0 q1 q2 q3 q4
  obtain ⟨q0, q1, q2, q3, q4, _⟩ := cells5 BQ3.out
  cases out with
  | true =>
    have hc : LQ = false ∨ (LQ = true ∧ (60 : Int) < l.length) := by
      rcases HO.out.1 rfl with h | h
      · exact .inl (HLQ.out.trans h)
      · cases hh : LQ with
        | false => exact .inl rfl
        | true => exact .inr ⟨rfl, by omega⟩
    rcases hc with rfl | ⟨rfl, h60⟩
    all_goals
      go_wp2_with fail
      go_ret
      exact ⟨rfl, B3.out⟩
  | false =>
  have hnn : ¬ (lightQ Q = false ∨ 60 < l.length) := fun h => by have := HO.out.2 h; cases this
  obtain rfl : LQ = true := by
    cases hh : LQ with
    | false => exact absurd (.inl (HLQ.out.symm.trans hh)) hnn
    | true => rfl
  have h60 : ¬ (60 : Int) < l.length := fun h => hnn (.inr (by omega))
  have hl60 : l.length ≤ 60 := by omega
  clear hnn
  go_wp2_with fail
  refine (rSize_calls Q [.int .i64 k, .string ⟨t.toArray⟩, .slice aa a.length ca, .slice ab b.length cb, .slice ac c.length cc] w3 _ (J.out.below B3.out)).mono ?_
  obtain ⟨DP, hDP⟩ : ∃ x : Int, x = sizeB Q := ⟨_, rfl⟩
  obtain ⟨CN, hCN⟩ : ∃ x : Int, x = sizeA Q := ⟨_, rfl⟩
  rw [← hDP, ← hCN]
  rintro e w4 ⟨rfl, kb⟩
  have HDP := Lib.hid hDP
  have B4 := Lib.hid (B3.out.trans (kb.mono B3.out.size))
  have BQ4 := Lib.hid (BQ3.out.below kb)
  clear kb B3 BQ3 q0 q1 q2 q3 q4 hDP hCN
  obtain ⟨q0, q1, q2, q3, q4, _⟩ := cells5 BQ4.out
  obtain ⟨QB, hQB⟩ : ∃ x : ByteArray, x = ⟨(Dx.queryB Q).toArray⟩ := ⟨_, rfl⟩
  have hQBs : QB.size = (Dx.queryB Q).length := by rw [hQB]; exact size_arr _
  have HQB := Lib.hid hQB; have HQBS := Lib.hid hQBs
  obtain ⟨C, hC⟩ : ∃ x : Bool, x = (R && (decide (DP ≤ 6) && decide ((QB.size : Int) ≤ 90000))) := ⟨_, rfl⟩
  have HC := Lib.hid hC
  have CQ := Lib.hid (show R = true → ∀ wq, Below w.heap.size w wq → Calls Tryz.prog 28 #[.agg #[.int .i64 k, .string ⟨t.toArray⟩, .slice aa a.length ca, .slice ab b.length cb, .slice ac c.length cc]] wq fun e w' => e = .returned (.string QB) ∧ Below wq.heap.size wq w' from fun hRt wq hq => by
    have hr := Dx.right_parts (HR.out.symm.trans hRt)
    have h := queryD_calls Q [.int .i64 k, .string ⟨t.toArray⟩, .slice aa a.length ca, .slice ab b.length cb, .slice ac c.length cc] wq _ (by omega) HF.out (J.out.below hq) (HG.out.below hq).1 (Nat.le_trans h8 hq.size)
    rw [← HQB.out] at h
    exact h)
  clear hQB hQBs hC
  go_upto_region 7 with fail
  go_cut [55] from 45 to 55 (fun v wc => v = .bool C ∧ Hid (Below w.heap.size w wc) ∧ Hid (QBox w.heap.size k t (.slice aa a.length ca) (.slice ab b.length cb) (.slice ac c.length cc) wc))
  case first =>
    cases R with
    | false =>
      have hc : C = false := by rw [HC.out]; rfl
      go_wp2_with fail
      go_meet
      case rel => exact ⟨by rw [hc], B4, BQ4⟩
    | true =>
      by_cases h6 : DP ≤ 6
      rotate_left
      · have hc : C = false := by rw [HC.out]; simp [h6]
        have HCF := Lib.hid hc
        clear hc
        go_wp2_with fail
        go_meet
        case rel => exact ⟨by rw [HCF.out], B4, BQ4⟩
      · have hc : C = decide ((QB.size : Int) ≤ 90000) := by rw [HC.out]; simp [h6]
        have HCF := Lib.hid hc
        clear hc
        go_wp2_with fail
        refine (CQ.out (by first | trivial | rfl) w4 B4.out).mono ?_
        rintro e w5 ⟨rfl, kb⟩
        have B5 := Lib.hid (B4.out.trans (kb.mono B4.out.size))
        have BQ5 := Lib.hid (BQ4.out.below kb)
        clear kb q0 q1 q2 q3 q4
        go_wp2_with fail
        go_meet
        case rel => exact ⟨by rw [HCF.out], B5, BQ5⟩
  case rest =>
  obtain ⟨rfl, BC, BXC⟩ := hcut
  clear B4 BQ4 q0 q1 q2 q3 q4
  go_upto_if 55 with fail
  go_cut [] (fun wx => Hid (Below w.heap.size w wx))
  case first =>
    cases C with
    | false =>
      go_wp2_with fail
      go_meet
      case rel => exact BC
    | true =>
      have hcc := HC.out
      simp only [Bool.true_eq, Bool.and_eq_true, decide_eq_true_eq] at hcc
      obtain ⟨hRt, h6, h9⟩ := hcc
      have hrt : Dx.right Q = true := HR.out.symm.trans hRt
      have hcount := (Dx.right_parts hrt).1
      have hdeep : Dx.deep Q ≤ 6 := by
        have h := HDP.out
        unfold sizeB at h
        rw [if_pos (by omega)] at h
        omega
      have hS := searchT_ok (Dx.back_search hrt hdeep (by have := HQBS.out; omega))
      obtain ⟨S, hSS⟩ : ∃ S, S = [123, 34, 113, 117, 101, 114, 121, 34, 58] ++ Dx.queryB Q ++ [125] := ⟨_, rfl⟩
      rw [← hSS] at hS
      have hcat : ((⟨#[123, 34, 113, 117, 101, 114, 121, 34, 58]⟩ ++ QB) ++ ⟨#[125]⟩ : ByteArray) = ⟨S.toArray⟩ := by
        rw [hSS, HQB.out]; simp [ByteArray.ext_iff, ByteArray.data_append]
      have HCAT := Lib.hid hcat; have HS := Lib.hid hS; have HCNT := Lib.hid hcount
      have n1 : ¬ 9223372036854775807 < 9 + QB.size := by omega
      have n2 : ¬ 9223372036854775807 < 9 + QB.size + 1 := by omega
      have CQ2 := Lib.hid (CQ.out hRt)
      subst hRt
      clear hcat hS hSS hcount hdeep hrt CQ HC HR HDP
      obtain ⟨q0, q1, q2, q3, q4, _⟩ := cells5 BXC.out
      go_wp2_with fail
      refine (CQ2.out wc BC.out).mono ?_
      rintro e w5 ⟨rfl, kb⟩
      have B5 := Lib.hid (BC.out.trans (kb.mono BC.out.size))
      have BQ5 := Lib.hid (BXC.out.below kb)
      clear kb q0 q1 q2 q3 q4 BC BXC
      go_wp2_with fail
      rw [HCAT.out]
      refine (search_calls S w5 (HG.out.below B5.out).1 (Nat.le_trans h8 B5.out.size)).mono ?_
      rintro e w6 ⟨cs, rfl, hq, hb⟩
      rw [HS.out] at hq ⊢
      simp only at hq ⊢
      rw [HQE.out] at hq
      obtain ⟨ta, tb, tc, rfl, ra, rb, rc⟩ := hq.rows
      obtain ⟨ba, da, rfl⟩ := ra.shape
      obtain ⟨bb, db, rfl⟩ := rb.shape
      obtain ⟨bc, dc, rfl⟩ := rc.shape
      rw [← HQE.out] at hq
      obtain ⟨g6, hg6⟩ : ∃ g, g = w6.heap.size := ⟨_, rfl⟩
      obtain ⟨x6, hx6⟩ : ∃ x, x = w6.alloc (.cells #[.int .i64 k, .string ⟨t.toArray⟩, .slice ba a.length da, .slice bb b.length db, .slice bc c.length dc] 26) := ⟨_, rfl⟩
      have c6 : Below w6.heap.size w6 x6 := by rw [hx6]; exact (Below.refl _ _).alloc (Nat.le_refl _) _
      have c56 := hb.trans (c6.mono hb.size)
      have P6 := Lib.hid (show QBox g6 k t (.slice ba a.length da) (.slice bb b.length db) (.slice bc c.length dc) x6 by rw [hx6, hg6]; exact heap_alloc_new w6 _)
      have Q6 := Lib.hid (hq.all.below c6).all
      have P0 := Lib.hid (BQ5.out.below c56)
      have B6 := Lib.hid (B5.out.trans (c56.mono B5.out.size))
      have Q0 := Lib.hid (J.out.below B6.out).all
      have HX6 := Lib.hid (And.intro hg6 hx6)
      clear hq ra rb rc hb c6 c56 hg6 hx6 BQ5 B5 HCAT HS CQ2
      go_upto_region 9 with fail
      rw [← HX6.out.1, ← HX6.out.2]
      clear HX6
      obtain ⟨y0, y1, y2, y3, y4, _⟩ := cells5 P6.out
      obtain ⟨u0, u1, u2, u3, u4, _⟩ := cells5 P0.out
      go_wp2_with fail
      refine (sameQ_calls 100 Q Q [.int .i64 k, .string ⟨t.toArray⟩, .slice ba a.length da, .slice bb b.length db, .slice bc c.length dc] [.int .i64 k, .string ⟨t.toArray⟩, .slice aa a.length ca, .slice ab b.length cb, .slice ac c.length cc] x6 _ HCNT.out (Nat.le_trans HCNT.out (by decide)) Q6.out Q0.out).mono ?_
      rintro e w7 ⟨r, rfl, hr, hb⟩
      obtain rfl : r = true := hr.2 rfl
      have B7 := Lib.hid (B6.out.trans (hb.mono B6.out.size))
      clear hr hb y0 y1 y2 y3 y4 u0 u1 u2 u3 u4 P6 P0 Q6 Q0 B6
      go_wp2_with fail
      go_meet
      case rel => exact B7
  case rest =>
  have BC2 := hcut
  clear BC BXC hcut CQ HC HQB HQBS HDP HR HF J HQE HLQ
  go_wp2_with fail
  go_loopg [15, 16, 17] (l.length) (fun g b v z wr => ∃ (i : Nat) (BA : ByteArray) (K : List Dx.Op), b = .string BA ∧ z = .int .i64 i ∧ g = l.length - i ∧ i ≤ l.length ∧ K.length ≤ i ∧ BA.size ≤ 8000 * i ∧ Hid (K = (l.take i).filter keepOp) ∧ Hid (BA = ⟨(Dx.linesB K).toArray⟩) ∧ Hid (Below w.heap.size w wr) ∧ Hid (wr.ownsRow w.heap.size 64 3 v K.length (opsCells (K.map Dx.plainOp))))
  case atStart => exact ⟨0, _, [], rfl, rfl, rfl, Nat.zero_le _, Nat.le_refl _, by simp [ByteArray.size], Lib.hid (by simp), Lib.hid rfl, BC2, Lib.hid (World.ownsRow_nil _ _ _ _)⟩
  case round =>
    clear BC2
    obtain ⟨i, BA, K, rfl, rfl, hq, hi, hKl, hBl, HK, HBB, hb, OWN⟩ := hrel
    have HQ := Lib.hid hq
    clear hq
    rcases Nat.lt_or_ge i l.length with hlt | hge
    · obtain ⟨o, hoi⟩ : ∃ o, l[i]? = some o := ⟨l[i], by simp [hlt]⟩
      have hmo := HM.out o (List.mem_of_getElem? hoi)
      obtain ⟨g, f, hga, _, hgl, d0, d1, d2⟩ := ROW.out.op hoi
      subst hga
      have b0 := (hb.out.cell (p := ⟨g, f + i * 3, none⟩) hgl).trans d0
      have b1 := (hb.out.cell (p := ⟨g, f + i * 3 + 1, none⟩) hgl).trans d1
      have b2 := (hb.out.cell (p := ⟨g, f + i * 3 + 2, none⟩) hgl).trans d2
      obtain ⟨ao, no, co, rfl⟩ := own_shape OWN.out
      have HKN := Lib.hid (keep_next hoi)
      clear d0 d1 d2 hoi
      obtain ⟨d, id, tx⟩ := o
      simp only at hmo b0 b1 b2
      have hm1 := hmo.1; have hm2 := hmo.2
      have his := size_arr id; have hts := size_arr tx
      obtain ⟨gx, hgx⟩ : ∃ g, g = wr.heap.size := ⟨_, rfl⟩
      obtain ⟨W1, hW1⟩ : ∃ x, x = wr.alloc (.cells #[.bool d, .string ⟨id.toArray⟩, .string ⟨tx.toArray⟩] 64) := ⟨_, rfl⟩
      have Y1 := Lib.hid (show Below wr.heap.size wr W1 by rw [hW1]; exact (Below.refl _ _).alloc (Nat.le_refl _) _)
      have BX1 := Lib.hid (show W1.heap[gx]? = some (.cells #[.bool d, .string ⟨id.toArray⟩, .string ⟨tx.toArray⟩] 64 (0, 0)) by rw [hW1, hgx]; exact heap_alloc_new wr _)
      have HGX := Lib.hid hgx; have HW1 := Lib.hid hW1
      clear hmo hgx hW1
      go_upto_region 18 with fail
      rw [← HGX.out, ← HW1.out]
      clear HW1 b0 b1 b2
      obtain ⟨q0, q1, q2, _⟩ := cells3 BX1.out
      go_wp2_with fail
      refine (valid10L id W1 hm1).mono ?_
      obtain ⟨V1, hV1⟩ : ∃ x, x = Cx.valid id := ⟨_, rfl⟩
      rw [← hV1]
      rintro e w2 ⟨rfl, kb⟩
      have Y2 := Lib.hid (Y1.out.trans (kb.mono Y1.out.size))
      have BX2 := Lib.hid ((kb.block _ (heap_lt BX1.out)).trans BX1.out)
      have HV1 := Lib.hid hV1
      clear kb Y1 BX1 q0 q1 q2 hV1
      obtain ⟨q0, q1, q2, _⟩ := cells3 BX2.out
      go_wp2_with fail
      refine (valid10L tx w2 hm2).mono ?_
      obtain ⟨V2, hV2⟩ : ∃ x, x = Cx.valid tx := ⟨_, rfl⟩
      rw [← hV2]
      rintro e w3 ⟨rfl, kb⟩
      have Y3 := Lib.hid (Y2.out.trans (kb.mono Y2.out.size))
      have BX3 := Lib.hid ((kb.block _ (heap_lt BX2.out)).trans BX2.out)
      have HV2 := Lib.hid hV2
      clear kb Y2 BX2 q0 q1 q2 hV2
      obtain ⟨q0, q1, q2, _⟩ := cells3 BX3.out
      have hc : (keepOp ⟨d, id, tx⟩ = false ∧ ((300 : Int) < id.length ∨ (¬ (300 : Int) < id.length ∧ (1000 : Int) < tx.length) ∨ (¬ (300 : Int) < id.length ∧ ¬ (1000 : Int) < tx.length ∧ V1 = false) ∨ (¬ (300 : Int) < id.length ∧ ¬ (1000 : Int) < tx.length ∧ V1 = true ∧ V2 = false))) ∨ (keepOp ⟨d, id, tx⟩ = true ∧ ¬ (300 : Int) < id.length ∧ ¬ (1000 : Int) < tx.length ∧ V1 = true ∧ V2 = true) := by
        unfold keepOp
        simp only
        rw [← HV1.out, ← HV2.out]
        by_cases h1 : (300 : Int) < id.length
        · exact .inl ⟨by rw [decide_eq_false (by omega)]; rfl, .inl h1⟩
        by_cases h2 : (1000 : Int) < tx.length
        · exact .inl ⟨by rw [decide_eq_false (p := tx.length ≤ 1000) (by omega)]; simp, .inr (.inl ⟨h1, h2⟩)⟩
        cases V1 with
        | false => exact .inl ⟨by simp, .inr (.inr (.inl ⟨h1, h2, rfl⟩))⟩
        | true =>
          cases V2 with
          | false => exact .inl ⟨by simp, .inr (.inr (.inr ⟨h1, h2, rfl, rfl⟩))⟩
          | true => exact .inr ⟨by simp; omega, h1, h2, rfl, rfl⟩
      rcases hc with ⟨hk, hc⟩ | ⟨hk, h1, h2, rfl, rfl⟩
      · have HK2 := Lib.hid (show K = (l.take (i + 1)).filter keepOp by rw [HKN.out, hk, HK.out]; simp)
        have B3 := Lib.hid (hb.out.trans (Y3.out.mono hb.out.size))
        have OWN3 := Lib.hid (ownsRow_below OWN.out Y3.out)
        clear hk HKN HK HV1 HV2 Y3 hb OWN BX3
        rcases hc with h1 | ⟨h1, h2⟩ | ⟨h1, h2, rfl⟩ | ⟨h1, h2, rfl, rfl⟩
        all_goals
          go_wp2_with fail
          go_roundg (l.length - (i + 1))
          case measure => have := HQ.out; omega
          case rel => exact ⟨i + 1, BA, K, rfl, by go_num, rfl, by omega, by omega, by omega, HK2, HBB, B3, OWN3⟩
      · have HK2 := Lib.hid (show K ++ [(⟨d, id, tx⟩ : Dx.Op)] = (l.take (i + 1)).filter keepOp by rw [HKN.out, hk, HK.out]; simp)
        obtain ⟨L, hL⟩ : ∃ L : ByteArray, L = ⟨(Dx.lineB ⟨d, id, tx⟩).toArray⟩ := ⟨_, rfl⟩
        have hLs : L.size ≤ 7840 := by rw [hL, size_arr]; have := Dx.lineB_length ⟨d, id, tx⟩; simp only at this; omega
        obtain ⟨B2, hB2⟩ : ∃ B2 : ByteArray, B2 = (BA ++ L) ++ ⟨#[10]⟩ := ⟨_, rfl⟩
        have hBs : B2.size ≤ 8000 * (i + 1) := by rw [hB2]; simp only [ByteArray.size_append]; have : (⟨#[10]⟩ : ByteArray).size = 1 := rfl; omega
        have HB22 := Lib.hid (show B2 = ⟨(Dx.linesB (K ++ [(⟨d, id, tx⟩ : Dx.Op)])).toArray⟩ by
          rw [hB2, HBB.out, hL, Dx.linesB_snoc]; simp [ByteArray.ext_iff, ByteArray.data_append])
        have n1 : ¬ 9223372036854775807 < BA.size + L.size := by omega
        have n2 : ¬ 9223372036854775807 < BA.size + L.size + 1 := by omega
        have HL := Lib.hid hL; have HB2 := Lib.hid hB2
        clear hk HKN HK HV1 HV2 hL hB2
        go_wp2_with fail
        refine (line_calls ⟨d, id, tx⟩ w3 (by simp only; omega) (by simp only; omega)).mono ?_
        rw [← HL.out]
        rintro e w4 ⟨rfl, kb⟩
        have Y4 := Lib.hid (Y3.out.trans (kb.mono Y3.out.size))
        have BX4 := Lib.hid ((kb.block _ (heap_lt BX3.out)).trans BX3.out)
        clear kb Y3 BX3 q0 q1 q2 HL
        obtain ⟨q0, q1, q2, _⟩ := cells3 BX4.out
        go_upto_region 22 with fail
        rw [← HB2.out]
        clear HB2 n1 n2
        cases d with
        | true =>
          obtain ⟨W5, hW5⟩ : ∃ W5, W5 = w4.setCell ⟨gx, 2, none⟩ (.string ⟨#[]⟩) := ⟨_, rfl⟩
          have BX5 := Lib.hid (show W5.heap[gx]? = some (.cells #[.bool true, .string ⟨id.toArray⟩, .string ⟨#[]⟩] 64 (0, 0)) by rw [hW5]; simp [World.setCell, Array.getElem?_modify, BX4.out])
          have Y5 := Lib.hid (show Below wr.heap.size wr W5 by rw [hW5]; exact Y4.out.setCell (p := ⟨gx, 2, none⟩) (by rw [HGX.out]; exact Nat.le_refl _) _)
          have HW5 := Lib.hid hW5
          clear hW5
          go_upto_region 24 with fail
          rw [← HW5.out]
          clear q0 q1 q2
          obtain ⟨q0, q1, q2, _⟩ := cells3 BX5.out
          have OWN5 := Lib.hid (ownsRow_below OWN.out Y5.out)
          have OWN8 := Lib.hid (OWN5.out.alloc (.cells #[.bool true, .string ⟨id.toArray⟩, .string ⟨#[]⟩] 64))
          obtain ⟨i0, hi0, hz0, hz1, hz7⟩ := info_parts infoOp
          have JO := Lib.hid (show ∀ u ∈ [Value.bool true, .string ⟨id.toArray⟩, .string ⟨#[]⟩], u.oneCell' = true from by
            intro u hu; simp only [List.mem_cons, List.not_mem_nil, or_false] at hu; rcases hu with rfl | rfl | rfl <;> rfl)
          have NEWS := Lib.hid (World.news_of_block (cs := #[.bool true, .string ⟨id.toArray⟩, .string ⟨#[]⟩]) (t := 64) (fr := (0, 0)) (heap_alloc_new W5 (.cells #[.bool true, .string ⟨id.toArray⟩, .string ⟨#[]⟩] 64)))
          have SZ := Lib.hid (show w.heap.size ≤ (W5.alloc (.cells #[.bool true, .string ⟨id.toArray⟩, .string ⟨#[]⟩] 64)).heap.size by have h1 := hb.out.size; have h2 := Y5.out.size; simp; omega)
          go_wp2_with (at_builtin; refine wpList_append_lies _ rfl _ _ 31 rfl (w.heap.size) 64 i0 _ 3 40 Tryz.underlying31 hi0 hz0 hz1 hz7 rfl (by decide) (.slice ao no co) K.length (opsCells (K.map Dx.plainOp)) rfl OWN8.out ⟨W5.heap.size, 0, none⟩ 1 1 [.bool true, .string ⟨id.toArray⟩, .string ⟨#[]⟩] rfl rfl NEWS.out JO.out (by decide) (by unfold maxLen; omega) (by omega) SZ.out (W5.heap.size + 1) (by simp) ?_; intro gg cap w9 hown9 hgrow9 hat9 hlt9)
          have OWN9 := Lib.hid (show w9.ownsRow w.heap.size 64 3 (.slice (some ⟨gg, 0, none⟩) (K.length + 1) cap) (K ++ [(⟨true, id, tx⟩ : Dx.Op)]).length (opsCells ((K ++ [(⟨true, id, tx⟩ : Dx.Op)]).map Dx.plainOp)) from by
            rw [List.map_append, List.length_append, show [(⟨true, id, tx⟩ : Dx.Op)].map Dx.plainOp = [⟨true, id, []⟩] from rfl, opsCells_snoc]
            exact hown9)
          have HB9 := Lib.hid (show Below w.heap.size w w9 from by
            have h0 : Below w.heap.size w W5 := hb.out.trans (Y5.out.mono hb.out.size)
            have h1 : Below w.heap.size w (W5.alloc (.cells #[.bool true, .string ⟨id.toArray⟩, .string ⟨#[]⟩] 64)) := h0.alloc h0.size _
            exact h1.grown hgrow9 h1.size (fun g hg => (OWN.out.lt g hg).1))
          clear hown9 hgrow9 hat9 hlt9 q0 q1 q2 OWN5 OWN8 JO NEWS SZ hi0 hz0 hz1 hz7
          go_wp2_with fail
          go_roundg (l.length - (i + 1))
          case measure => have := HQ.out; omega
          case rel => exact ⟨i + 1, B2, K ++ [⟨true, id, tx⟩], rfl, by go_num, rfl, by omega, by rw [List.length_append]; simp; omega, by omega, HK2, HB22, HB9, OWN9⟩
        | false =>
          obtain ⟨W5, hW5⟩ : ∃ W5, W5 = w4 := ⟨_, rfl⟩
          have BX5 := Lib.hid (show W5.heap[gx]? = some (.cells #[.bool false, .string ⟨id.toArray⟩, .string ⟨tx.toArray⟩] 64 (0, 0)) by rw [hW5]; exact BX4.out)
          have Y5 := Lib.hid (show Below wr.heap.size wr W5 by rw [hW5]; exact Y4.out)
          have HW5 := Lib.hid hW5
          clear hW5
          go_upto_region 24 with fail
          rw [← HW5.out]
          clear q0 q1 q2
          obtain ⟨q0, q1, q2, _⟩ := cells3 BX5.out
          have OWN5 := Lib.hid (ownsRow_below OWN.out Y5.out)
          have OWN8 := Lib.hid (OWN5.out.alloc (.cells #[.bool false, .string ⟨id.toArray⟩, .string ⟨tx.toArray⟩] 64))
          obtain ⟨i0, hi0, hz0, hz1, hz7⟩ := info_parts infoOp
          have JO := Lib.hid (show ∀ u ∈ [Value.bool false, .string ⟨id.toArray⟩, .string ⟨tx.toArray⟩], u.oneCell' = true from by
            intro u hu; simp only [List.mem_cons, List.not_mem_nil, or_false] at hu; rcases hu with rfl | rfl | rfl <;> rfl)
          have NEWS := Lib.hid (World.news_of_block (cs := #[.bool false, .string ⟨id.toArray⟩, .string ⟨tx.toArray⟩]) (t := 64) (fr := (0, 0)) (heap_alloc_new W5 (.cells #[.bool false, .string ⟨id.toArray⟩, .string ⟨tx.toArray⟩] 64)))
          have SZ := Lib.hid (show w.heap.size ≤ (W5.alloc (.cells #[.bool false, .string ⟨id.toArray⟩, .string ⟨tx.toArray⟩] 64)).heap.size by have h1 := hb.out.size; have h2 := Y5.out.size; simp; omega)
          go_wp2_with (at_builtin; refine wpList_append_lies _ rfl _ _ 31 rfl (w.heap.size) 64 i0 _ 3 40 Tryz.underlying31 hi0 hz0 hz1 hz7 rfl (by decide) (.slice ao no co) K.length (opsCells (K.map Dx.plainOp)) rfl OWN8.out ⟨W5.heap.size, 0, none⟩ 1 1 [.bool false, .string ⟨id.toArray⟩, .string ⟨tx.toArray⟩] rfl rfl NEWS.out JO.out (by decide) (by unfold maxLen; omega) (by omega) SZ.out (W5.heap.size + 1) (by simp) ?_; intro gg cap w9 hown9 hgrow9 hat9 hlt9)
          have OWN9 := Lib.hid (show w9.ownsRow w.heap.size 64 3 (.slice (some ⟨gg, 0, none⟩) (K.length + 1) cap) (K ++ [(⟨false, id, tx⟩ : Dx.Op)]).length (opsCells ((K ++ [(⟨false, id, tx⟩ : Dx.Op)]).map Dx.plainOp)) from by
            rw [List.map_append, List.length_append, show [(⟨false, id, tx⟩ : Dx.Op)].map Dx.plainOp = [⟨false, id, tx⟩] from rfl, opsCells_snoc]
            exact hown9)
          have HB9 := Lib.hid (show Below w.heap.size w w9 from by
            have h0 : Below w.heap.size w W5 := hb.out.trans (Y5.out.mono hb.out.size)
            have h1 : Below w.heap.size w (W5.alloc (.cells #[.bool false, .string ⟨id.toArray⟩, .string ⟨tx.toArray⟩] 64)) := h0.alloc h0.size _
            exact h1.grown hgrow9 h1.size (fun g hg => (OWN.out.lt g hg).1))
          clear hown9 hgrow9 hat9 hlt9 q0 q1 q2 OWN5 OWN8 JO NEWS SZ hi0 hz0 hz1 hz7
          go_wp2_with fail
          go_roundg (l.length - (i + 1))
          case measure => have := HQ.out; omega
          case rel => exact ⟨i + 1, B2, K ++ [⟨false, id, tx⟩], rfl, by go_num, rfl, by omega, by rw [List.length_append]; simp; omega, by omega, HK2, HB22, HB9, OWN9⟩
    · have hik : i = l.length := by omega
      obtain ⟨ao, no, co, rfl⟩ := own_shape OWN.out
      subst hik
      have hok : ∀ o ∈ K, Dx.okOp o := by rw [HK.out]; exact keep_all
      have hbk := bulk_ok (Dx.back_bulk K hok)
      have hBl2 : (Dx.linesB K).length ≤ 1000000 := by rw [HBB.out, size_arr] at hBl; omega
      have HBK := Lib.hid hbk; have HBL2 := Lib.hid hBl2
      clear hok hbk hBl2
      go_wp2_with fail
      rw [HBB.out]
      refine (bulk_calls (Dx.linesB K) wr (HG.out.below hb.out) (Nat.le_trans h8 hb.out.size) HBL2.out).mono ?_
      rintro e w2 ⟨sv, rfl, ho, kb⟩
      rw [HBK.out.1]
      rw [HBK.out.2] at ho
      obtain ⟨a9, c9, rfl⟩ := ORow.shape ho
      have B2 := Lib.hid (hb.out.trans (kb.mono hb.out.size))
      have O1 := Lib.hid (show ORow w2 (fun g => g < w2.heap.size) (.slice a9 K.length c9) (K.map Dx.plainOp) from by
        have h := ORow.all ho
        rw [List.length_map] at h
        exact h)
      rw [List.length_map]
      have O2 := Lib.hid (show ORow w2 (fun _ => True) (.slice ao no co) (K.map Dx.plainOp) from by
        have := Row.of_own (ok := fun _ => True) (ownsRow_below OWN.out kb) (fun _ _ => trivial)
        unfold ORow
        rw [List.length_map]
        exact this)
      clear ho kb HBK HBL2 hb OWN HK HBB
      go_wp2_with fail
      refine (sameOps_calls (K.map Dx.plainOp) (K.map Dx.plainOp) (.slice a9 K.length c9) (.slice ao no co) w2 _ _ (by rw [List.length_map]; omega) O1.out O2.out).mono ?_
      rintro e w7 ⟨r, rfl, hr, kb⟩
      obtain rfl : r = true := hr.2 rfl
      have B7 := Lib.hid (B2.out.trans (kb.mono B2.out.size))
      clear hr kb
      go_wp2_with fail
      go_ret
      exact ⟨rfl, B7.out⟩
theorem dslBack_calls (q : Dx.Qy) (cs : List Value) (l : List Dx.Op) (la : Option Addr) (lc : Nat) (w : World) (ok ok2 : Nat → Prop) (hg : GlbD w) (h8 : 8 ≤ w.heap.size) (hf : Dx.qfit maxLen q) (hj : QyAt w ok q cs) (hm : ∀ o ∈ l, o.id.length ≤ maxLen ∧ o.text.length ≤ maxLen) (hr : ORow w ok2 (.slice la l.length lc) l) :
    Calls Tryz.prog 8 #[.agg cs.toArray, .slice la l.length lc] w (LawPost w) :=
  back_main (decide (lightQ q = false ∨ 60 < l.length)) q cs l la lc w ok ok2 hg h8 hf hj hm hr (by simp)

end Go.Proofs.YtejlddimokmgjaaGreatDoor
