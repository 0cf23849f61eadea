/- WALKS: query: lists, many, deep, Size. WALKS: query: deep, Size, node. WALKS: query: nodes, Right. WALKS: Search. WALKS: op: a line's op (the walk). WALKS: Bulk, Text. -/
import Derived.Test.YtejlddimokmgjaaGreatDoorKi
import Derived.Deep.DeepCutAuto
import Derived.Test.YtejlddimokmgjaaGreatDoorKc
import Derived.Test.YtejlddimokmgjaaGreatDoorKj
import Derived.Test.YtejlddimokmgjaaGreatDoorKb
import Derived.Test.YtejlddimokmgjaaGreatDoorYShelf
import Derived.Deep.AppendLies
import Derived.Lib.CutLaws
import Derived.Lib.IndexMore
import Derived.Lib.IndexBytes
import Derived.Lib.SplitLaws
namespace Go.Proofs.YtejlddimokmgjaaGreatDoor
open Go.RowKit

/-- The cells of an element, with their shapes. -/
theorem QRow.kid' {w : World} {ok : Nat → Prop} {a : Option Addr} {c : Nat} {qs : List Dx.Qy} (h : QRow w ok (.slice a qs.length c) qs) {i : Nat} {q : Dx.Qy} (hi : qs[i]? = some q) :
    ∃ g o, a = some ⟨g, o, none⟩ ∧ ok g ∧ g < w.heap.size ∧ ∃ (k : Int) (t : List UInt8) (n1 n2 n3 : Nat) (a1 a2 a3 : Option Addr) (c1 c2 c3 : Nat), QyAt w ok q [.int .i64 k, .string ⟨t.toArray⟩, .slice a1 n1 c1, .slice a2 n2 c2, .slice a3 n3 c3] ∧
      w.cell? ⟨g, o + i * 5, none⟩ = some (.int .i64 k) ∧ w.cell? ⟨g, o + i * 5 + 1, none⟩ = some (.string ⟨t.toArray⟩) ∧ w.cell? ⟨g, o + i * 5 + 2, none⟩ = some (.slice a1 n1 c1) ∧ w.cell? ⟨g, o + i * 5 + 3, none⟩ = some (.slice a2 n2 c2) ∧ w.cell? ⟨g, o + i * 5 + 4, none⟩ = some (.slice a3 n3 c3) := by
  obtain ⟨g, o, ha, hg, hl, x0, x1, x2, x3, x4, hk, d0, d1, d2, d3, d4⟩ := h.kid hi
  obtain ⟨k, t, A, B, C⟩ := q
  obtain ⟨s1, s2, s3, he, r1, r2, r3⟩ := hk.rows
  obtain ⟨a1, c1, rfl⟩ := r1.shape
  obtain ⟨a2, c2, rfl⟩ := r2.shape
  obtain ⟨a3, c3, rfl⟩ := r3.shape
  injection he with e0 he; injection he with e1 he; injection he with e2 he; injection he with e3 he; injection he with e4 he
  subst e0 e1 e2 e3 e4
  exact ⟨g, o, ha, hg, hl, k, t, A.length, B.length, C.length, a1, a2, a3, c1, c2, c3, hk, d0, d1, d2, d3, d4⟩

set_option maxRecDepth 100000 in
theorem qlists_calls (k : Int) (t : List UInt8) (aa ab ac : Option Addr) (na ca nb cb nc cc : Nat) (w : World) :
    Calls Tryz.prog 116 #[.agg #[.int .i64 k, .string ⟨t.toArray⟩, .slice aa na ca, .slice ab nb cb, .slice ac nc cc]] w fun e w' => e = .returned (.agg #[.slice aa na ca, .slice ab nb cb, .slice ac nc cc]) ∧ Below w.heap.size w w' := by
  go_enter Tryz.func116, Tryz.ntmps116
  go_wp2_with fail
  exact bodyPost_ret (v := .agg #[.slice aa na ca, .slice ab nb cb, .slice ac nc cc]) (by simp [results, Tryz.results116, go_sem]) rfl ⟨rfl, ((Below.refl w.heap.size w).alloc (Nat.le_refl _) _).alloc (by simp) _⟩

/-- One of three lists. -/
def lsel (a b c : List Dx.Qy) (j : Nat) : List Dx.Qy := if j = 0 then a else if j = 1 then b else c
/-- How many nodes the first of three lists have. -/
def preQ (a b c : List Dx.Qy) (j : Nat) : Nat := (if 0 < j then Dx.countK a else 0) + (if 1 < j then Dx.countK b else 0) + (if 2 < j then Dx.countK c else 0)
theorem preQ_next (a b c : List Dx.Qy) (j : Nat) (h : j < 3) : preQ a b c (j + 1) = preQ a b c j + Dx.countK (lsel a b c j) := by
  have : j = 0 ∨ j = 1 ∨ j = 2 := by omega
  rcases this with rfl | rfl | rfl <;> simp [preQ, lsel]
theorem countK_take {q : Dx.Qy} : ∀ {qs : List Dx.Qy} {i : Nat}, qs[i]? = some q → Dx.countK (qs.take (i + 1)) = Dx.countK (qs.take i) + Dx.count q ∧ Dx.countK (qs.take i) + Dx.count q ≤ Dx.countK qs
  | [], _, h => by simp at h
  | a :: qs, 0, h => by
    simp only [List.getElem?_cons_zero, Option.some.injEq] at h
    subst h
    simp [Dx.countK]
  | a :: qs, i + 1, h => by
    simp only [List.getElem?_cons_succ] at h
    have := countK_take h
    simp only [List.take_succ_cons, Dx.countK]
    omega
theorem preQ_le (a b c : List Dx.Qy) (j : Nat) (h : j < 3) (k : Int) (t : List UInt8) : 1 + preQ a b c j + Dx.countK (lsel a b c j) ≤ Dx.count (.mk k t a b c) := by
  have : j = 0 ∨ j = 1 ∨ j = 2 := by omega
  rcases this with rfl | rfl | rfl <;> simp [preQ, lsel, Dx.count] <;> omega
theorem preQ_all (a b c : List Dx.Qy) (k : Int) (t : List UInt8) : Dx.count (.mk k t a b c) = 1 + preQ a b c 3 := by
  simp [preQ, Dx.count]; omega

set_option maxRecDepth 100000 in
set_option maxHeartbeats 4000000 in
theorem qmany_calls : ∀ (N : Nat) (q : Dx.Qy) (cs : List Value) (most : Nat) (w : World) (ok : Nat → Prop), Dx.count q ≤ N → Dx.count q ≤ 1000000 → QyAt w ok q cs → most ≤ 100000 →
    Calls Tryz.prog 114 #[.agg cs.toArray, .int .i64 most] w fun e w' => e = .returned (.int .i64 (min (Dx.count q) (most + 1) : Nat)) ∧ Below w.heap.size w w' := by
  intro N
  induction N with
  | zero => intro q _ _ _ _ h; have := count_pos q; omega
  | succ N ih =>
    intro q cs most w ok hN hM hj hm
    obtain ⟨k, t, a, b, c⟩ := q
    obtain ⟨sa, sb, sc, rfl, ra, rb, rc⟩ := hj.all.rows
    obtain ⟨aa, ca, rfl⟩ := ra.shape
    obtain ⟨ab, cb, rfl⟩ := rb.shape
    obtain ⟨ac, cc, rfl⟩ := rc.shape
    have IH := Lib.hid ih; have RA := Lib.hid ra; have RB := Lib.hid rb; have RC := Lib.hid rc; have HN := Lib.hid hN; have HM := Lib.hid hM
    have HB0 := Lib.hid ((Below.refl w.heap.size w).alloc (Nat.le_refl _) (.cells #[.int .i64 k, .string ⟨t.toArray⟩, .slice aa a.length ca, .slice ab b.length cb, .slice ac c.length cc] 26))
    clear ih ra rb rc hN hM hj
    go_enter Tryz.func114, Tryz.ntmps114
    go_wp2_with fail
    refine (qlists_calls k t aa ab ac a.length ca b.length cb c.length cc _).mono ?_
    rintro e w1 ⟨rfl, hb⟩
    have HB1 := Lib.hid (HB0.out.trans (hb.mono HB0.out.size))
    clear hb
    go_wp2_with fail
    go_loopg [5, 12] (3) (fun g y z wr => ∃ (j n : Nat), y = .int .i64 n ∧ z = .int .i64 j ∧ g = 3 - j ∧ j ≤ 3 ∧ n ≤ most + 1 ∧ Hid (n = min (1 + preQ a b c j) (most + 1)) ∧ Hid (Below w.heap.size w wr))
    case atStart => exact ⟨0, 1, rfl, rfl, rfl, by omega, by omega, Lib.hid (by simp [preQ]), HB1⟩
    case round =>
      obtain ⟨j, n, rfl, rfl, hg, hj3, hn, HNN, hb⟩ := hrel
      have HG := Lib.hid hg
      clear hg
      rcases Nat.lt_or_ge j 3 with hlt | hge
      · have hltb : decide ((j : Int) < 3) = true := by simp; omega
        go_upto_region 4 with fail
        go_cut [7] (fun l wc => ∃ (L : List Dx.Qy) (al : Option Addr) (cl : Nat), l = .slice al L.length cl ∧ Hid (L = lsel a b c j) ∧ Hid (QRow w (fun g => g < w.heap.size) (.slice al L.length cl) L) ∧ Hid (Below w.heap.size w wc))
        case first =>
          have i0 : ∀ W, (Instr.index 142 (.agg #[.slice aa a.length ca, .slice ab b.length cb, .slice ac c.length cc]) (.int .i64 0)).run Tryz.prog W = .ok (.slice aa a.length ca) W := fun _ => by kernel_rfl
          have i1 : ∀ W, (Instr.index 142 (.agg #[.slice aa a.length ca, .slice ab b.length cb, .slice ac c.length cc]) (.int .i64 1)).run Tryz.prog W = .ok (.slice ab b.length cb) W := fun _ => by kernel_rfl
          have i2 : ∀ W, (Instr.index 142 (.agg #[.slice aa a.length ca, .slice ab b.length cb, .slice ac c.length cc]) (.int .i64 2)).run Tryz.prog W = .ok (.slice ac c.length cc) W := fun _ => by kernel_rfl
          obtain rfl | rfl | rfl : j = 0 ∨ j = 1 ∨ j = 2 := by omega
          · go_wp2_with fail
            go_meet
            case rel => exact ⟨a, aa, ca, rfl, Lib.hid rfl, RA, hb⟩
          · go_wp2_with fail
            go_meet
            case rel => exact ⟨b, ab, cb, rfl, Lib.hid rfl, RB, hb⟩
          · go_wp2_with fail
            go_meet
            case rel => exact ⟨c, ac, cc, rfl, Lib.hid rfl, RC, hb⟩
        case rest =>
        obtain ⟨L, al, cl, rfl, HL, RL, HBC⟩ := hcut
        have hLl : L.length ≤ 1000000 := by
          have h1 := countK_len L; have h2 := preQ_le a b c j hlt k t; have h3 := HM.out
          rw [← HL.out] at h2; omega
        go_wp2_with fail
        go_loopg [5, 17] (L.length) (fun g y z wr => ∃ (i m : Nat), y = .int .i64 m ∧ z = .int .i64 i ∧ g = L.length - i ∧ i ≤ L.length ∧ m ≤ most + 1 ∧ Hid (m = min (1 + preQ a b c j + Dx.countK (L.take i)) (most + 1)) ∧ Hid (Below w.heap.size w wr))
        case atStart => exact ⟨0, n, rfl, rfl, rfl, by omega, hn, Lib.hid (by rw [HNN.out]; simp [Dx.countK]), HBC⟩
        case round =>
          obtain ⟨i, m, rfl, rfl, hq, hi, hm1, HMM, hbr⟩ := hrel
          have HQ := Lib.hid hq
          clear hq
          rcases Nat.lt_or_ge i L.length with hil | hig
          · obtain ⟨x, hx⟩ : ∃ x, L[i]? = some x := ⟨L[i], by simp [hil]⟩
            obtain ⟨g, o, hv, _, hgl, xk, xt, xn1, xn2, xn3, xa1, xa2, xa3, xc1, xc2, xc3, hkj, d0, d1, d2, d3, d4⟩ := RL.out.kid' hx
            subst hv
            have b0 := (hbr.out.cell (p := ⟨g, o + i * 5, none⟩) hgl).trans d0
            have b1 := (hbr.out.cell (p := ⟨g, o + i * 5 + 1, none⟩) hgl).trans d1
            have b2 := (hbr.out.cell (p := ⟨g, o + i * 5 + 2, none⟩) hgl).trans d2
            have b3 := (hbr.out.cell (p := ⟨g, o + i * 5 + 3, none⟩) hgl).trans d3
            have b4 := (hbr.out.cell (p := ⟨g, o + i * 5 + 4, none⟩) hgl).trans d4
            have KJ := Lib.hid hkj; have HX := Lib.hid hx
            have HBB := Lib.hid (hbr.out.alloc hbr.out.size (.cells #[.int .i64 xk, .string ⟨xt.toArray⟩, .slice xa1 xn1 xc1, .slice xa2 xn2 xc2, .slice xa3 xn3 xc3] 26))
            clear hkj d0 d1 d2 d3 d4 hx
            by_cases hnm : most < m
            · have hnmi : (most : Int) < (m : Int) := by omega
              have hfin : min (Dx.count (.mk k t a b c)) (most + 1) = m := by
                have h1 := HMM.out; have h2 := countK_take HX.out; have h3 := preQ_le a b c j hlt k t
                rw [← HL.out] at h3; omega
              go_wp2_with fail
              go_ret
              exact ⟨ret_int (by rw [hfin]), HBB.out⟩
            · have hnmi : ¬ (most : Int) < (m : Int) := by omega
              have hc := IH.out x [.int .i64 xk, .string ⟨xt.toArray⟩, .slice xa1 xn1 xc1, .slice xa2 xn2 xc2, .slice xa3 xn3 xc3] (most - m) (wr.alloc (.cells #[.int .i64 xk, .string ⟨xt.toArray⟩, .slice xa1 xn1 xc1, .slice xa2 xn2 xc2, .slice xa3 xn3 xc3] 26)) (fun g => g < w.heap.size) (by
                have h2 := countK_take HX.out; have h3 := preQ_le a b c j hlt k t; have h4 := HN.out
                rw [← HL.out] at h3; omega) (by
                have h2 := countK_take HX.out; have h3 := preQ_le a b c j hlt k t; have h4 := HM.out
                rw [← HL.out] at h3; omega) (KJ.out.below HBB.out) (by omega)
              rw [show (((most - m : Nat) : Nat) : Int) = (most : Int) - (m : Int) by omega] at hc
              have HC := Lib.hid hc
              clear hc
              go_wp2_with fail
              refine HC.out.mono ?_
              rintro e w5 ⟨rfl, hb5⟩
              have HB5 := Lib.hid (HBB.out.trans (hb5.mono HBB.out.size))
              obtain ⟨r, hr⟩ : ∃ r, r = min (Dx.count x) (most - m + 1) := ⟨_, rfl⟩
              rw [← hr]
              have hrl : r ≤ most - m + 1 := by omega
              have HR := Lib.hid hr
              clear hb5 hr b0 b1 b2 b3 b4 HC
              go_wp2
              go_roundg (L.length - (i + 1))
              case measure => have := HQ.out; omega
              case rel =>
                refine ⟨i + 1, m + r, by go_num, by go_num, rfl, by omega, by omega, Lib.hid ?_, HB5⟩
                have := HR.out; have := HMM.out; have h2 := (countK_take HX.out).1
                rw [h2]; omega
          · have hik : i = L.length := by omega
            subst hik
            go_wp2
            go_roundg (3 - (j + 1))
            case measure => have := HG.out; omega
            case rel =>
              refine ⟨j + 1, m, rfl, by go_num, rfl, by omega, hm1, Lib.hid ?_, hbr⟩
              have h1 := HMM.out
              rw [List.take_length] at h1
              rw [preQ_next a b c j hlt, ← HL.out, h1]
              omega
      · have hj' : j = 3 := by omega
        subst hj'
        have hfin : min (Dx.count (.mk k t a b c)) (most + 1) = n := by rw [preQ_all, HNN.out]
        go_wp2
        rw [hfin]
        go_ret
        exact ⟨rfl, hb.out⟩
end Go.Proofs.YtejlddimokmgjaaGreatDoor
namespace Go.Proofs.YtejlddimokmgjaaGreatDoor
open Go.RowKit

/-- How deep the first of three lists are. -/
def preD (a b c : List Dx.Qy) (j : Nat) : Nat := max (if 0 < j then Dx.deepK a else 0) (max (if 1 < j then Dx.deepK b else 0) (if 2 < j then Dx.deepK c else 0))
theorem preD_next (a b c : List Dx.Qy) (j : Nat) (h : j < 3) : preD a b c (j + 1) = max (preD a b c j) (Dx.deepK (lsel a b c j)) := by
  have : j = 0 ∨ j = 1 ∨ j = 2 := by omega
  rcases this with rfl | rfl | rfl <;> simp [preD, lsel] <;> omega
theorem deepK_take {q : Dx.Qy} : ∀ {qs : List Dx.Qy} {i : Nat}, qs[i]? = some q → Dx.deepK (qs.take (i + 1)) = max (Dx.deepK (qs.take i)) (Dx.deep q)
  | [], _, h => by simp at h
  | a :: qs, 0, h => by
    simp only [List.getElem?_cons_zero, Option.some.injEq] at h
    subst h
    simp [Dx.deepK]
  | a :: qs, i + 1, h => by
    simp only [List.getElem?_cons_succ] at h
    have := deepK_take h
    simp only [List.take_succ_cons, Dx.deepK]
    omega
theorem preD_all (a b c : List Dx.Qy) (k : Int) (t : List UInt8) : Dx.deep (.mk k t a b c) = preD a b c 3 + 1 := by
  simp [preD, Dx.deep]; omega
mutual
theorem deep_count : ∀ q : Dx.Qy, Dx.deep q ≤ Dx.count q
  | .mk k t a b c => by
    have := deepK_count a; have := deepK_count b; have := deepK_count c
    simp only [Dx.deep, Dx.count]; omega
theorem deepK_count : ∀ l : List Dx.Qy, Dx.deepK l ≤ Dx.countK l
  | [] => by simp [Dx.deepK]
  | q :: l => by
    have := deep_count q; have := deepK_count l
    simp only [Dx.deepK, Dx.countK]; omega
end
theorem deepK_get {q : Dx.Qy} {qs : List Dx.Qy} {i : Nat} (h : qs[i]? = some q) : Dx.deep q ≤ Dx.countK qs := Nat.le_trans (deep_count q) (countK_get h)

set_option maxRecDepth 100000 in
set_option maxHeartbeats 4000000 in
theorem qdeep_calls : ∀ (N : Nat) (q : Dx.Qy) (cs : List Value) (w : World) (ok : Nat → Prop), Dx.count q ≤ N → Dx.count q ≤ 1000000 → QyAt w ok q cs →
    Calls Tryz.prog 115 #[.agg cs.toArray] w fun e w' => e = .returned (.int .i64 (Dx.deep q : Nat)) ∧ Below w.heap.size w w' := by
  intro N
  induction N with
  | zero => intro q _ _ _ h; have := count_pos q; omega
  | succ N ih =>
    intro q cs w ok hN hM hj
    obtain ⟨k, t, a, b, c⟩ := q
    obtain ⟨sa, sb, sc, rfl, ra, rb, rc⟩ := hj.all.rows
    obtain ⟨aa, ca, rfl⟩ := ra.shape
    obtain ⟨ab, cb, rfl⟩ := rb.shape
    obtain ⟨ac, cc, rfl⟩ := rc.shape
    have IH := Lib.hid ih; have RA := Lib.hid ra; have RB := Lib.hid rb; have RC := Lib.hid rc; have HN := Lib.hid hN; have HM := Lib.hid hM
    have HB0 := Lib.hid ((Below.refl w.heap.size w).alloc (Nat.le_refl _) (.cells #[.int .i64 k, .string ⟨t.toArray⟩, .slice aa a.length ca, .slice ab b.length cb, .slice ac c.length cc] 26))
    clear ih ra rb rc hN hM hj
    go_enter Tryz.func115, Tryz.ntmps115
    go_wp2_with fail
    refine (qlists_calls k t aa ab ac a.length ca b.length cb c.length cc _).mono ?_
    rintro e w1 ⟨rfl, hb⟩
    have HB1 := Lib.hid (HB0.out.trans (hb.mono HB0.out.size))
    clear hb
    go_wp2_with fail
    go_loopg [3, 10] (3) (fun g y z wr => ∃ (j n : Nat), y = .int .i64 n ∧ z = .int .i64 j ∧ g = 3 - j ∧ j ≤ 3 ∧ n ≤ 1000000 ∧ Hid (n = preD a b c j) ∧ Hid (Below w.heap.size w wr))
    case atStart => exact ⟨0, 0, rfl, rfl, rfl, by omega, by omega, Lib.hid (by simp [preD]), HB1⟩
    case round =>
      obtain ⟨j, n, rfl, rfl, hg, hj3, hn, HNN, hb⟩ := hrel
      have HG := Lib.hid hg
      clear hg
      rcases Nat.lt_or_ge j 3 with hlt | hge
      · have hltb : decide ((j : Int) < 3) = true := by simp; omega
        go_upto_region 4 with fail
        go_cut [5] (fun l wc => ∃ (L : List Dx.Qy) (al : Option Addr) (cl : Nat), l = .slice al L.length cl ∧ Hid (L = lsel a b c j) ∧ Hid (QRow w (fun g => g < w.heap.size) (.slice al L.length cl) L) ∧ Hid (Below w.heap.size w wc))
        case first =>
          have i0 : ∀ W, (Instr.index 142 (.agg #[.slice aa a.length ca, .slice ab b.length cb, .slice ac c.length cc]) (.int .i64 0)).run Tryz.prog W = .ok (.slice aa a.length ca) W := fun _ => by kernel_rfl
          have i1 : ∀ W, (Instr.index 142 (.agg #[.slice aa a.length ca, .slice ab b.length cb, .slice ac c.length cc]) (.int .i64 1)).run Tryz.prog W = .ok (.slice ab b.length cb) W := fun _ => by kernel_rfl
          have i2 : ∀ W, (Instr.index 142 (.agg #[.slice aa a.length ca, .slice ab b.length cb, .slice ac c.length cc]) (.int .i64 2)).run Tryz.prog W = .ok (.slice ac c.length cc) W := fun _ => by kernel_rfl
          obtain rfl | rfl | rfl : j = 0 ∨ j = 1 ∨ j = 2 := by omega
          · go_wp2_with fail
            go_meet
            case rel => exact ⟨a, aa, ca, rfl, Lib.hid rfl, RA, hb⟩
          · go_wp2_with fail
            go_meet
            case rel => exact ⟨b, ab, cb, rfl, Lib.hid rfl, RB, hb⟩
          · go_wp2_with fail
            go_meet
            case rel => exact ⟨c, ac, cc, rfl, Lib.hid rfl, RC, hb⟩
        case rest =>
        obtain ⟨L, al, cl, rfl, HL, RL, HBC⟩ := hcut
        have hLl : L.length ≤ 1000000 := by
          have h1 := countK_len L; have h2 := preQ_le a b c j hlt k t; have h3 := HM.out
          rw [← HL.out] at h2; omega
        go_wp2_with fail
        go_loopg [3, 15] (L.length) (fun g y z wr => ∃ (i m : Nat), y = .int .i64 m ∧ z = .int .i64 i ∧ g = L.length - i ∧ i ≤ L.length ∧ m ≤ 1000000 ∧ Hid (m = max (preD a b c j) (Dx.deepK (L.take i))) ∧ Hid (Below w.heap.size w wr))
        case atStart => exact ⟨0, n, rfl, rfl, rfl, by omega, hn, Lib.hid (by rw [HNN.out]; simp [Dx.deepK]), HBC⟩
        case round =>
          obtain ⟨i, m, rfl, rfl, hq, hi, hm1, HMM, hbr⟩ := hrel
          have HQ := Lib.hid hq
          clear hq
          rcases Nat.lt_or_ge i L.length with hil | hig
          · obtain ⟨x, hx⟩ : ∃ x, L[i]? = some x := ⟨L[i], by simp [hil]⟩
            obtain ⟨g, o, hv, _, hgl, xk, xt, xn1, xn2, xn3, xa1, xa2, xa3, xc1, xc2, xc3, hkj, d0, d1, d2, d3, d4⟩ := RL.out.kid' hx
            subst hv
            have b0 := (hbr.out.cell (p := ⟨g, o + i * 5, none⟩) hgl).trans d0
            have b1 := (hbr.out.cell (p := ⟨g, o + i * 5 + 1, none⟩) hgl).trans d1
            have b2 := (hbr.out.cell (p := ⟨g, o + i * 5 + 2, none⟩) hgl).trans d2
            have b3 := (hbr.out.cell (p := ⟨g, o + i * 5 + 3, none⟩) hgl).trans d3
            have b4 := (hbr.out.cell (p := ⟨g, o + i * 5 + 4, none⟩) hgl).trans d4
            have KJ := Lib.hid hkj; have HX := Lib.hid hx
            have HBB := Lib.hid (hbr.out.alloc hbr.out.size (.cells #[.int .i64 xk, .string ⟨xt.toArray⟩, .slice xa1 xn1 xc1, .slice xa2 xn2 xc2, .slice xa3 xn3 xc3] 26))
            clear hkj d0 d1 d2 d3 d4 hx
            have hxd : Dx.deep x ≤ 1000000 := by
              have h1 := deepK_get HX.out; have h3 := preQ_le a b c j hlt k t; have h4 := HM.out
              rw [← HL.out] at h3; omega
            go_wp2_with fail
            refine (IH.out x [.int .i64 xk, .string ⟨xt.toArray⟩, .slice xa1 xn1 xc1, .slice xa2 xn2 xc2, .slice xa3 xn3 xc3] _ (fun g => g < w.heap.size) (by
                have h2 := countK_take HX.out; have h3 := preQ_le a b c j hlt k t; have h4 := HN.out
                rw [← HL.out] at h3; omega) (by
                have h2 := countK_take HX.out; have h3 := preQ_le a b c j hlt k t; have h4 := HM.out
                rw [← HL.out] at h3; omega) (KJ.out.below HBB.out)).mono ?_
            rintro e w5 ⟨rfl, hb5⟩
            have HB5 := Lib.hid (HBB.out.trans (hb5.mono HBB.out.size))
            obtain ⟨r, hr⟩ : ∃ r, r = Dx.deep x := ⟨_, rfl⟩
            rw [← hr] at hxd ⊢
            have HR := Lib.hid hr
            clear hb5 hr b0 b1 b2 b3 b4
            rcases Nat.lt_or_ge m r with hmr | hmr
            · have hmi : (m : Int) < (r : Int) := by omega
              have hmj : max (m : Int) (r : Int) = (r : Int) := by omega
              go_wp2
              go_roundg (L.length - (i + 1))
              case measure => have := HQ.out; omega
              case rel =>
                refine ⟨i + 1, r, by go_num, by go_num, rfl, by omega, by omega, Lib.hid ?_, HB5⟩
                rw [deepK_take HX.out, ← HR.out]
                have := HMM.out; omega
            · have hmi : ¬ (m : Int) < (r : Int) := by omega
              have hmj : max (m : Int) (r : Int) = (m : Int) := by omega
              go_wp2
              go_roundg (L.length - (i + 1))
              case measure => have := HQ.out; omega
              case rel =>
                refine ⟨i + 1, m, by go_num, by go_num, rfl, by omega, by omega, Lib.hid ?_, HB5⟩
                rw [deepK_take HX.out, ← HR.out]
                have := HMM.out; omega
          · have hik : i = L.length := by omega
            subst hik
            go_wp2
            go_roundg (3 - (j + 1))
            case measure => have := HG.out; omega
            case rel =>
              refine ⟨j + 1, m, rfl, by go_num, rfl, by omega, hm1, Lib.hid ?_, hbr⟩
              have h1 := HMM.out
              rw [List.take_length] at h1
              rw [preD_next a b c j hlt, ← HL.out, h1]
      · have hj' : j = 3 := by omega
        subst hj'
        have hfin : (Dx.deep (.mk k t a b c) : Int) = (n : Int) + 1 := by rw [preD_all, HNN.out]; omega
        have HF := Lib.hid hfin
        clear hfin
        go_wp2
        rw [HF.out]
        go_ret
        exact ⟨rfl, hb.out⟩

/-- What 'Size' answers. -/
def sizeA (q : Dx.Qy) : Int := if Dx.count q ≤ 1000 then Dx.count q else 1001
def sizeB (q : Dx.Qy) : Int := if Dx.count q ≤ 1000 then Dx.deep q else 0
set_option maxRecDepth 100000 in
set_option maxHeartbeats 4000000 in
theorem qSize_calls (q : Dx.Qy) (cs : List Value) (w : World) (ok : Nat → Prop) (hM : Dx.count q ≤ 1000000) (hj : QyAt w ok q cs) :
    Calls Tryz.prog 73 #[.agg cs.toArray] w fun e w' => e = .returned (.tuple #[.int .i64 (sizeA q), .int .i64 (sizeB q)]) ∧ Below w.heap.size w w' := by
  obtain ⟨Q, hQ⟩ : ∃ Q, Q = q := ⟨_, rfl⟩
  obtain ⟨k, t, a, b, c⟩ := q
  obtain ⟨sa, sb, sc, rfl, ra, rb, rc⟩ := hj.all.rows
  obtain ⟨aa, ca, rfl⟩ := ra.shape
  obtain ⟨ab, cb, rfl⟩ := rb.shape
  obtain ⟨ac, cc, rfl⟩ := rc.shape
  rw [← hQ] at hj hM ⊢
  have J := Lib.hid hj.all; have HM := Lib.hid hM
  have HB0 := Lib.hid ((Below.refl w.heap.size w).alloc (Nat.le_refl _) (.cells #[.int .i64 k, .string ⟨t.toArray⟩, .slice aa a.length ca, .slice ab b.length cb, .slice ac c.length cc] 26))
  have BOX := Lib.hid (heap_alloc_new w (.cells #[.int .i64 k, .string ⟨t.toArray⟩, .slice aa a.length ca, .slice ab b.length cb, .slice ac c.length cc] 26))
  clear hQ ra rb rc hM hj
  go_enter Tryz.func73, Tryz.ntmps73
  go_wp2_with fail
  refine (show Calls Tryz.prog 114 #[.agg #[.int .i64 k, .string ⟨t.toArray⟩, .slice aa a.length ca, .slice ab b.length cb, .slice ac c.length cc], .int .i64 1000] _ _ from qmany_calls _ Q [.int .i64 k, .string ⟨t.toArray⟩, .slice aa a.length ca, .slice ab b.length cb, .slice ac c.length cc] 1000 _ _ (Nat.le_refl _) HM.out (J.out.below HB0.out) (by omega)).mono ?_
  rintro e w1 ⟨rfl, hb⟩
  have HB1 := Lib.hid (HB0.out.trans (hb.mono HB0.out.size))
  have BOX1 := Lib.hid ((hb.block _ (heap_lt BOX.out)).trans BOX.out)
  obtain ⟨q0, q1, q2, q3, q4, _⟩ := cells5 BOX1.out
  obtain ⟨N, hN⟩ : ∃ N : Nat, N = min (Dx.count Q) (1000 + 1) := ⟨_, rfl⟩
  rw [← hN]
  have HN := Lib.hid hN
  clear hb hN
  by_cases hn : N ≤ 1000
  · have hni : ¬ (1000 : Int) < (N : Int) := by omega
    have hA : sizeA Q = N := by unfold sizeA; have := HN.out; rw [if_pos (by omega)]; omega
    have hB : sizeB Q = Dx.deep Q := by unfold sizeB; have := HN.out; rw [if_pos (by omega)]
    have HA := Lib.hid hA; have HBB := Lib.hid hB
    clear hA hB
    go_wp2_with fail
    refine (qdeep_calls _ Q [.int .i64 k, .string ⟨t.toArray⟩, .slice aa a.length ca, .slice ab b.length cb, .slice ac c.length cc] _ _ (Nat.le_refl _) HM.out (J.out.below HB1.out)).mono ?_
    rintro e w2 ⟨rfl, hb⟩
    have HB2 := Lib.hid (HB1.out.trans (hb.mono HB1.out.size))
    clear hb q0 q1 q2 q3 q4
    go_wp2_with fail
    go_ret2
    exact ⟨by rw [HA.out, HBB.out]; rfl, HB2.out⟩
  · have hni : (1000 : Int) < (N : Int) := by omega
    have hA : sizeA Q = 1001 := by unfold sizeA; have := HN.out; rw [if_neg (by omega)]
    have hB : sizeB Q = 0 := by unfold sizeB; have := HN.out; rw [if_neg (by omega)]
    have HA := Lib.hid hA; have HBB := Lib.hid hB
    clear hA hB
    go_wp2_with fail
    go_ret2
    exact ⟨by rw [HA.out, HBB.out]; rfl, HB1.out⟩

theorem validL_calls (t : List UInt8) (w : World) (hg : Glb w) (ht : t.length ≤ maxLen) :
    Calls Tryz.prog 152 #[.string ⟨t.toArray⟩] w fun e w' => e = .returned (.bool (Cx.valid t)) ∧ Below w.heap.size w w' := by
  have h := valid_calls ⟨t.toArray⟩ w hg ht
  rw [show (⟨t.toArray⟩ : ByteArray).data.toList = t by simp] at h
  exact h

set_option maxRecDepth 100000 in
set_option maxHeartbeats 4000000 in
theorem qnode_calls (k : Int) (t : List UInt8) (a b c : List Dx.Qy) (aa ab ac : Option Addr) (ca cb cc : Nat) (w : World) (hM : Dx.count (.mk k t a b c) ≤ 1000000) (hg : Glb w) (ht : t.length ≤ maxLen) :
    Calls Tryz.prog 119 #[.agg #[.int .i64 k, .string ⟨t.toArray⟩, .slice aa a.length ca, .slice ab b.length cb, .slice ac c.length cc]] w fun e w' => e = .returned (.bool (Dx.nodeOk k t (a.length + b.length + c.length))) ∧ Below w.heap.size w w' := by
  have ha := countK_len a; have hb := countK_len b; have hc := countK_len c
  simp only [Dx.count] at hM
  obtain ⟨na, hna⟩ : ∃ na, na = a.length := ⟨_, rfl⟩
  obtain ⟨nb, hnb⟩ : ∃ nb, nb = b.length := ⟨_, rfl⟩
  obtain ⟨nc, hnc⟩ : ∃ nc, nc = c.length := ⟨_, rfl⟩
  rw [← hna] at ha ⊢; rw [← hnb] at hb ⊢; rw [← hnc] at hc ⊢
  have hs1 : na + nb + nc ≤ 1000000 := by omega
  obtain ⟨R, hR⟩ : ∃ R, R = Dx.nodeOk k t (na + nb + nc) := ⟨_, rfl⟩
  rw [← hR]
  unfold Dx.nodeOk at hR
  have HR := Lib.hid hR; have HG := Lib.hid hg; have HT := Lib.hid ht
  have HB0 := Lib.hid ((Below.refl w.heap.size w).alloc (Nat.le_refl _) (.cells #[.int .i64 k, .string ⟨t.toArray⟩, .slice aa na ca, .slice ab nb cb, .slice ac nc cc] 26))
  clear hna hnb hnc hR hg ha hb hc hM ht
  by_cases hz : na + nb + nc = 0
  · obtain ⟨rfl, rfl, rfl⟩ : na = 0 ∧ nb = 0 ∧ nc = 0 := ⟨by omega, by omega, by omega⟩
    by_cases h234 : k = 2 ∨ k = 3 ∨ k = 4
    · have hr := HR.out
      rw [if_pos h234] at hr
      by_cases hl : t.length ≤ 200
      · have hr2 : R = Cx.valid t := by rw [hr]; simp [hl]
        have HR2 := Lib.hid hr2
        have hli : decide ((t.length : Int) ≤ 200) = true := by simp; omega
        clear hr hr2 HR
        rcases h234 with rfl | rfl | rfl
        all_goals
          go_enter Tryz.func119, Tryz.ntmps119
          go_wp2_with fail
          refine (validL_calls t _ (HG.out.below HB0.out) HT.out).mono ?_
          rw [← HR2.out]
          rintro e w1 ⟨rfl, hb⟩
          have HB1 := Lib.hid (HB0.out.trans (hb.mono HB0.out.size))
          clear hb
          go_wp2_with fail
          go_ret
          exact ⟨rfl, HB1.out⟩
      · have hr2 : R = false := by rw [hr]; simp [hl]
        subst hr2
        have hli : decide ((t.length : Int) ≤ 200) = false := by simp; omega
        clear hr HR
        rcases h234 with rfl | rfl | rfl
        all_goals
          go_enter Tryz.func119, Tryz.ntmps119
          go_wp2_with fail
          go_ret
          exact ⟨rfl, HB0.out⟩
    · have k2 : (k == 2) = false := by simp; omega
      have k3 : (k == 3) = false := by simp; omega
      have k4 : (k == 4) = false := by simp; omega
      have hr := HR.out
      rw [if_neg h234] at hr
      by_cases h1 : k = 1
      · subst h1
        rw [if_pos rfl] at hr
        have hr2 : R = t.isEmpty := by rw [hr]; cases t <;> rfl
        rw [hr2]
        clear hr hr2 HR k2 k3 k4 h234
        go_enter Tryz.func119, Tryz.ntmps119
        go_wp2_with fail
        go_ret
        exact ⟨rfl, HB0.out⟩
      · rw [if_neg h1] at hr
        have k1 : (k == 1) = false := by simp; omega
        by_cases h5 : k = 5
        · subst h5
          rw [if_pos rfl] at hr
          have hr2 : R = t.isEmpty := by rw [hr]; cases t <;> rfl
          rw [hr2]
          clear hr hr2 HR k1 k2 k3 k4 h234 h1
          go_enter Tryz.func119, Tryz.ntmps119
          go_wp2_with fail
          go_ret
          exact ⟨rfl, HB0.out⟩
        · rw [if_neg h5] at hr
          have k5 : (k == 5) = false := by simp; omega
          subst hr
          clear HR h234 h1 h5
          go_enter Tryz.func119, Tryz.ntmps119
          go_wp2_with fail
          go_ret
          exact ⟨rfl, HB0.out⟩
  · have hzb : (((na : Int) + (nb : Int) + (nc : Int)) == 0) = false := by rw [beq_eq_false_iff_ne]; omega
    by_cases h234 : k = 2 ∨ k = 3 ∨ k = 4
    · have hr := HR.out
      rw [if_pos h234, decide_eq_false hz, Bool.false_and, Bool.false_and] at hr
      subst hr
      clear HR
      rcases h234 with rfl | rfl | rfl
      all_goals
        go_enter Tryz.func119, Tryz.ntmps119
        go_wp2_with fail
        go_ret
        exact ⟨rfl, HB0.out⟩
    · have k2 : (k == 2) = false := by simp; omega
      have k3 : (k == 3) = false := by simp; omega
      have k4 : (k == 4) = false := by simp; omega
      have hr := HR.out
      rw [if_neg h234] at hr
      by_cases h1 : k = 1
      · subst h1
        rw [if_pos rfl, decide_eq_false hz, Bool.false_and] at hr
        subst hr
        clear HR k2 k3 k4 h234
        go_enter Tryz.func119, Tryz.ntmps119
        go_wp2_with fail
        go_ret
        exact ⟨rfl, HB0.out⟩
      · rw [if_neg h1] at hr
        have k1 : (k == 1) = false := by simp; omega
        by_cases h5 : k = 5
        · subst h5
          rw [if_pos rfl] at hr
          have hr2 : R = t.isEmpty := by rw [hr]; cases t <;> rfl
          rw [hr2]
          clear hr hr2 HR k1 k2 k3 k4 h234 h1
          go_enter Tryz.func119, Tryz.ntmps119
          go_wp2_with fail
          go_ret
          exact ⟨rfl, HB0.out⟩
        · rw [if_neg h5] at hr
          have k5 : (k == 5) = false := by simp; omega
          subst hr
          clear HR h234 h1 h5
          go_enter Tryz.func119, Tryz.ntmps119
          go_wp2_with fail
          go_ret
          exact ⟨rfl, HB0.out⟩
end Go.Proofs.YtejlddimokmgjaaGreatDoor
namespace Go.Proofs.YtejlddimokmgjaaGreatDoor
open Go.RowKit

theorem nodesOkK_any : ∀ l : List Dx.Qy, (l.any fun q => !Dx.nodesOk q) = !Dx.nodesOkK l
  | [] => rfl
  | q :: l => by simp only [List.any_cons, Dx.nodesOkK, nodesOkK_any l, Bool.not_and]
def preOk (a b c : List Dx.Qy) (j : Nat) : Bool := (if 0 < j then Dx.nodesOkK a else true) && (if 1 < j then Dx.nodesOkK b else true) && (if 2 < j then Dx.nodesOkK c else true)
theorem preOk_next (a b c : List Dx.Qy) (j : Nat) (h : j < 3) : preOk a b c (j + 1) = (preOk a b c j && Dx.nodesOkK (lsel a b c j)) := by
  have : j = 0 ∨ j = 1 ∨ j = 2 := by omega
  rcases this with rfl | rfl | rfl <;> simp [preOk, lsel]
theorem preOk_bad (a b c : List Dx.Qy) (j : Nat) (h : j < 3) (hb : Dx.nodesOkK (lsel a b c j) = false) (k : Int) (t : List UInt8) : Dx.nodesOk (.mk k t a b c) = false := by
  have : j = 0 ∨ j = 1 ∨ j = 2 := by omega
  rcases this with rfl | rfl | rfl <;> simp [lsel] at hb <;> simp [Dx.nodesOk, hb]
theorem preOk_all (a b c : List Dx.Qy) (h : preOk a b c 3 = true) (k : Int) (t : List UInt8) : Dx.nodesOk (.mk k t a b c) = Dx.nodeOk k t (a.length + b.length + c.length) := by
  simp [preOk] at h
  simp [Dx.nodesOk, h]

set_option maxRecDepth 100000 in
set_option maxHeartbeats 2000000 in
theorem qindex_calls (p : Dx.Qy → Bool) (L : List Dx.Qy) (a : Option Addr) (kc : Nat) (w : World) (ok : Nat → Prop) (h : QRow w ok (.slice a L.length kc) L) (hl : L.length ≤ 1000000)
    (hcall : ∀ (wr : World) (x : Dx.Qy) (cs : List Value), x ∈ L → Below w.heap.size w wr → QyAt wr (fun g => g < w.heap.size) x cs →
      Calls Tryz.prog 118 #[.agg cs.toArray] wr fun e w' => e = .returned (.bool (p x)) ∧ Below wr.heap.size wr w') :
    Calls Tryz.prog 157 #[.slice a L.length kc, .func (.func 118) #[] #[]] w fun e w' =>
      ∃ r : Int, e = .returned (.int .i64 r) ∧ decide (r < 0) = !(L.any p) ∧ Below w.heap.size w w' := by
  have R := Lib.hid h.all; have HC := Lib.hid hcall
  clear h hcall
  go_enter Tryz.func157, Tryz.ntmps157
  go_wp2_with fail
  go_loopg [8] (L.length) (fun q z wr => ∃ (i : Nat), z = .int .i64 i ∧ q = L.length - i ∧ i ≤ L.length ∧ Hid (L.any p = (L.drop i).any p) ∧ Hid (Below w.heap.size w wr))
  case atStart => exact ⟨0, rfl, rfl, Nat.zero_le _, Lib.hid rfl, Lib.hid (Below.refl _ w)⟩
  case round =>
    obtain ⟨i, rfl, hq, hi, hr, hb⟩ := hrel
    have HQ := Lib.hid hq
    clear hq
    rcases Nat.lt_or_ge i L.length with hlt | hge
    · obtain ⟨k, hk⟩ : ∃ k, L[i]? = some k := ⟨L[i], by simp [hlt]⟩
      have hdr : L.drop i = k :: L.drop (i + 1) := by
        rw [List.drop_eq_getElem_cons hlt]; congr 1
        rw [List.getElem?_eq_getElem hlt] at hk; exact Option.some.inj hk
      obtain ⟨g, o, hv, _, hgl, xk, xt, xn1, xn2, xn3, xa1, xa2, xa3, xc1, xc2, xc3, hkj, d0, d1, d2, d3, d4⟩ := R.out.kid' hk
      subst hv
      have b0 := (hb.out.cell (p := ⟨g, o + i * 5, none⟩) hgl).trans d0
      have b1 := (hb.out.cell (p := ⟨g, o + i * 5 + 1, none⟩) hgl).trans d1
      have b2 := (hb.out.cell (p := ⟨g, o + i * 5 + 2, none⟩) hgl).trans d2
      have b3 := (hb.out.cell (p := ⟨g, o + i * 5 + 3, none⟩) hgl).trans d3
      have b4 := (hb.out.cell (p := ⟨g, o + i * 5 + 4, none⟩) hgl).trans d4
      have KJ := Lib.hid hkj; have HK := Lib.hid (List.mem_of_getElem? hk); have HD := Lib.hid hdr
      clear hkj d0 d1 d2 d3 d4 hk hdr
      go_wp2_with fail
      refine (HC.out wr k [.int .i64 xk, .string ⟨xt.toArray⟩, .slice xa1 xn1 xc1, .slice xa2 xn2 xc2, .slice xa3 xn3 xc3] HK.out hb.out (KJ.out.below hb.out)).mono ?_
      rintro e w5 ⟨rfl, hb5⟩
      have HB5 := Lib.hid (hb.out.trans (hb5.mono hb.out.size))
      have hr2 := hr.out
      rw [HD.out, List.any_cons] at hr2
      clear hb5 b0 b1 b2 b3 b4
      cases hp : p k with
      | true =>
        rw [hp] at hr2
        have HR2 := Lib.hid hr2
        clear hr2 hp
        go_wp2
        go_ret
        exact ⟨i, rfl, by rw [HR2.out]; simp, HB5.out⟩
      | false =>
        rw [hp, Bool.false_or] at hr2
        have HR2 := Lib.hid hr2
        clear hr2 hp
        go_wp2
        go_roundg (L.length - (i + 1))
        case measure => have := HQ.out; omega
        case rel => exact ⟨i + 1, by go_num, rfl, by omega, HR2, HB5⟩
    · have hik : i = L.length := by omega
      subst hik
      have hfin : L.any p = false := by
        have := hr.out
        rw [List.drop_length] at this
        simpa using this
      have HF := Lib.hid hfin
      clear hfin
      go_wp2
      go_ret
      exact ⟨-1, rfl, by rw [HF.out]; rfl, hb.out⟩

set_option maxRecDepth 100000 in
theorem qcontains_calls (p : Dx.Qy → Bool) (L : List Dx.Qy) (a : Option Addr) (kc : Nat) (w : World) (ok : Nat → Prop) (h : QRow w ok (.slice a L.length kc) L) (hl : L.length ≤ 1000000)
    (hcall : ∀ (wr : World) (x : Dx.Qy) (cs : List Value), x ∈ L → Below w.heap.size w wr → QyAt wr (fun g => g < w.heap.size) x cs →
      Calls Tryz.prog 118 #[.agg cs.toArray] wr fun e w' => e = .returned (.bool (p x)) ∧ Below wr.heap.size wr w') :
    Calls Tryz.prog 117 #[.slice a L.length kc, .func (.func 118) #[] #[]] w fun e w' =>
      e = .returned (.bool (L.any p)) ∧ Below w.heap.size w w' := by
  have HI := Lib.hid (qindex_calls p L a kc w ok h hl hcall)
  clear h hcall
  go_enter Tryz.func117, Tryz.ntmps117
  go_wp2_with fail
  refine HI.out.mono ?_
  rintro e w5 ⟨r, rfl, hr, hb⟩
  have HR := Lib.hid hr; have HB := Lib.hid hb
  clear hr hb
  go_wp2
  have e : L.any p = decide (0 ≤ r) := by
    have h := HR.out
    cases ha : L.any p <;> rw [ha] at h <;> simp at h ⊢ <;> omega
  rw [e]
  go_ret
  exact ⟨rfl, HB.out⟩

theorem countK_mem {q : Dx.Qy} {l : List Dx.Qy} (h : q ∈ l) : Dx.count q ≤ Dx.countK l := by
  obtain ⟨i, hi⟩ := List.getElem?_of_mem h
  exact countK_get hi

set_option maxRecDepth 100000 in
set_option maxHeartbeats 4000000 in
theorem qnodes_calls : ∀ (N : Nat) (q : Dx.Qy) (cs : List Value) (w : World) (ok : Nat → Prop), Dx.count q ≤ N → Dx.count q ≤ 1000000 → Dx.qfit maxLen q → QyAt w ok q cs → Glb w →
    Calls Tryz.prog 74 #[.agg cs.toArray] w fun e w' => e = .returned (.bool (Dx.nodesOk q)) ∧ Below w.heap.size w w' := by
  intro N
  induction N with
  | zero => intro q _ _ _ h; have := count_pos q; omega
  | succ N ih =>
    intro q cs w ok hN hM hf hj hgl
    obtain ⟨k, t, a, b, c⟩ := q
    obtain ⟨sa, sb, sc, rfl, ra, rb, rc⟩ := hj.all.rows
    obtain ⟨aa, ca, rfl⟩ := ra.shape
    obtain ⟨ab, cb, rfl⟩ := rb.shape
    obtain ⟨ac, cc, rfl⟩ := rc.shape
    unfold Dx.qfit at hf
    have IH := Lib.hid ih; have RA := Lib.hid ra; have RB := Lib.hid rb; have RC := Lib.hid rc; have HN := Lib.hid hN; have HM := Lib.hid hM; have HF := Lib.hid hf; have HG := Lib.hid hgl
    have HB0 := Lib.hid ((Below.refl w.heap.size w).alloc (Nat.le_refl _) (.cells #[.int .i64 k, .string ⟨t.toArray⟩, .slice aa a.length ca, .slice ab b.length cb, .slice ac c.length cc] 26))
    have BOX := Lib.hid (heap_alloc_new w (.cells #[.int .i64 k, .string ⟨t.toArray⟩, .slice aa a.length ca, .slice ab b.length cb, .slice ac c.length cc] 26))
    have CLO := Lib.hid (show ∀ (L : List Dx.Qy), (∀ x ∈ L, Dx.count x ≤ N ∧ Dx.count x ≤ 1000000 ∧ Dx.qfit maxLen x) → ∀ (W wr : World) (x : Dx.Qy) (cs : List Value), x ∈ L → Below w.heap.size w W → Below W.heap.size W wr → QyAt wr (fun g => g < W.heap.size) x cs →
        Calls Tryz.prog 118 #[.agg cs.toArray] wr fun e w' => e = .returned (.bool (!Dx.nodesOk x)) ∧ Below wr.heap.size wr w' from by
      intro L hL W wr x cs hx hbW hbr hxj
      have hx' := hL x hx
      have h5 := hxj.length
      obtain ⟨y0, y1, y2, y3, y4, rfl⟩ := five h5
      have HX := Lib.hid hx'; have XJ := Lib.hid hxj.all
      have HGR := Lib.hid ((hgl.below hbW).below hbr)
      have HBB := Lib.hid ((Below.refl wr.heap.size wr).alloc (Nat.le_refl _) (.cells #[y0, y1, y2, y3, y4] 26))
      have IH := Lib.hid ih
      have ONE := Lib.hid hxj.one
      obtain ⟨kk, tt, la, lb, lc⟩ := x
      obtain ⟨s1, s2, s3, he, r1, r2, r3⟩ := hxj.rows
      obtain ⟨a1, c1, rfl⟩ := r1.shape
      obtain ⟨a2, c2, rfl⟩ := r2.shape
      obtain ⟨a3, c3, rfl⟩ := r3.shape
      injection he with e0 he; injection he with e1 he; injection he with e2 he; injection he with e3 he; injection he with e4 he
      subst e0 e1 e2 e3 e4
      clear hL hx hbW hbr hxj hx' ih h5 r1 r2 r3 hN hM hf hj hgl ra rb rc he
      go_enter Tryz.func118, Tryz.ntmps118
      go_wp2_with fail
      refine (IH.out (.mk kk tt la lb lc) [.int .i64 kk, .string ⟨tt.toArray⟩, .slice a1 la.length c1, .slice a2 lb.length c2, .slice a3 lc.length c3] _ _ HX.out.1 HX.out.2.1 HX.out.2.2 (XJ.out.below HBB.out) (HGR.out.below HBB.out)).mono ?_
      rintro e w5 ⟨rfl, hb5⟩
      have HB5 := Lib.hid (HBB.out.trans (hb5.mono HBB.out.size))
      obtain ⟨r, hr⟩ : ∃ r, r = Dx.nodesOk (.mk kk tt la lb lc) := ⟨_, rfl⟩
      rw [← hr]
      have HR := Lib.hid hr
      clear hb5 hr
      go_wp2_with fail
      go_ret
      exact ⟨by rw [← HR.out]; rfl, HB5.out⟩)
    clear ih ra rb rc hN hM hj hf hgl
    go_enter Tryz.func74, Tryz.ntmps74
    go_wp2_with fail
    refine (qlists_calls k t aa ab ac a.length ca b.length cb c.length cc _).mono ?_
    rintro e w1 ⟨rfl, hb⟩
    have HB1 := Lib.hid (HB0.out.trans (hb.mono HB0.out.size))
    have BOX1 := Lib.hid ((hb.block _ (heap_lt BOX.out)).trans BOX.out)
    clear hb
    go_wp2_with fail
    go_loopg [7] (3) (fun g z wr => ∃ (j : Nat), z = .int .i64 j ∧ g = 3 - j ∧ j ≤ 3 ∧ Hid (preOk a b c j = true) ∧ Hid (Below w.heap.size w wr) ∧ Hid (wr.heap[w.heap.size]? = some (.cells #[.int .i64 k, .string ⟨t.toArray⟩, .slice aa a.length ca, .slice ab b.length cb, .slice ac c.length cc] 26 (0, 0))))
    case atStart => exact ⟨0, rfl, rfl, by omega, Lib.hid (by simp [preOk]), HB1, BOX1⟩
    case round =>
      obtain ⟨j, rfl, hg, hj3, HPRE, hb, BOXR⟩ := hrel
      have HGG := Lib.hid hg
      clear hg
      rcases Nat.lt_or_ge j 3 with hlt | hge
      · have hltb : decide ((j : Int) < 3) = true := by simp; omega
        go_upto_region 3 with fail
        go_cut [4] (fun l wc => ∃ (L : List Dx.Qy) (al : Option Addr) (cl : Nat), l = .slice al L.length cl ∧ Hid (L = lsel a b c j) ∧ Hid (QRow w (fun g => g < w.heap.size) (.slice al L.length cl) L) ∧ Hid (Below w.heap.size w wc) ∧ Hid (wc.heap[w.heap.size]? = some (.cells #[.int .i64 k, .string ⟨t.toArray⟩, .slice aa a.length ca, .slice ab b.length cb, .slice ac c.length cc] 26 (0, 0))))
        case first =>
          have i0 : ∀ W, (Instr.index 142 (.agg #[.slice aa a.length ca, .slice ab b.length cb, .slice ac c.length cc]) (.int .i64 0)).run Tryz.prog W = .ok (.slice aa a.length ca) W := fun _ => by kernel_rfl
          have i1 : ∀ W, (Instr.index 142 (.agg #[.slice aa a.length ca, .slice ab b.length cb, .slice ac c.length cc]) (.int .i64 1)).run Tryz.prog W = .ok (.slice ab b.length cb) W := fun _ => by kernel_rfl
          have i2 : ∀ W, (Instr.index 142 (.agg #[.slice aa a.length ca, .slice ab b.length cb, .slice ac c.length cc]) (.int .i64 2)).run Tryz.prog W = .ok (.slice ac c.length cc) W := fun _ => by kernel_rfl
          obtain rfl | rfl | rfl : j = 0 ∨ j = 1 ∨ j = 2 := by omega
          · go_wp2_with fail
            go_meet
            case rel => exact ⟨a, aa, ca, rfl, Lib.hid rfl, RA, hb, BOXR⟩
          · go_wp2_with fail
            go_meet
            case rel => exact ⟨b, ab, cb, rfl, Lib.hid rfl, RB, hb, BOXR⟩
          · go_wp2_with fail
            go_meet
            case rel => exact ⟨c, ac, cc, rfl, Lib.hid rfl, RC, hb, BOXR⟩
        case rest =>
        obtain ⟨L, al, cl, rfl, HL, RL, HBC, BOXC⟩ := hcut
        have hLl : L.length ≤ 1000000 := by
          have h1 := countK_len L; have h2 := preQ_le a b c j hlt k t; have h3 := HM.out
          rw [← HL.out] at h2; omega
        have HALL := Lib.hid (show ∀ x ∈ L, Dx.count x ≤ N ∧ Dx.count x ≤ 1000000 ∧ Dx.qfit maxLen x by
          intro x hx
          have h1 := countK_mem hx; have h2 := preQ_le a b c j hlt k t; have h3 := HM.out; have h4 := HN.out
          rw [← HL.out] at h2
          refine ⟨by omega, by omega, ?_⟩
          have hf := HF.out.2
          have : Dx.qfitK maxLen L := by
            rw [HL.out]
            obtain rfl | rfl | rfl : j = 0 ∨ j = 1 ∨ j = 2 := by omega
            · exact hf.1
            · exact hf.2.1
            · exact hf.2.2
          exact Dx.qfitK_mem this hx)
        go_wp2_with fail
        refine (qcontains_calls (fun q => !Dx.nodesOk q) L al cl _ _ (RL.out.below HBC.out) hLl (fun wr x cs hx hbr hxj => CLO.out L HALL.out _ wr x cs hx HBC.out hbr hxj)).mono ?_
        rw [nodesOkK_any]
        rintro e w5 ⟨rfl, hb5⟩
        have HB5 := Lib.hid (HBC.out.trans (hb5.mono HBC.out.size))
        have BOX5 := Lib.hid ((hb5.block _ (heap_lt BOXC.out)).trans BOXC.out)
        clear hb5
        cases hok : Dx.nodesOkK L with
        | true =>
          have HPN := Lib.hid (show preOk a b c (j + 1) = true by rw [preOk_next a b c j hlt, HPRE.out, ← HL.out, hok]; rfl)
          clear hok
          simp only [Bool.not_true]
          go_wp2
          go_roundg (3 - (j + 1))
          case measure => have := HGG.out; omega
          case rel => exact ⟨j + 1, by go_num, rfl, by omega, HPN, HB5, BOX5⟩
        | false =>
          have HBAD := Lib.hid (preOk_bad a b c j hlt (by rw [← HL.out]; exact hok) k t)
          clear hok
          simp only [Bool.not_false]
          go_wp2
          go_ret
          exact ⟨by rw [HBAD.out]; rfl, HB5.out⟩
      · have hj' : j = 3 := by omega
        subst hj'
        have HFIN := Lib.hid (preOk_all a b c HPRE.out k t)
        obtain ⟨q0, q1, q2, q3, q4, _⟩ := cells5 BOXR.out
        go_wp2_with fail
        refine (qnode_calls k t a b c aa ab ac ca cb cc _ HM.out (HG.out.below hb.out) HF.out.1).mono ?_
        rintro e w5 ⟨rfl, hb5⟩
        have HB5 := Lib.hid (hb.out.trans (hb5.mono hb.out.size))
        obtain ⟨r, hr⟩ : ∃ r, r = Dx.nodeOk k t (a.length + b.length + c.length) := ⟨_, rfl⟩
        rw [← hr]
        have HR := Lib.hid hr
        clear hb5 q0 q1 q2 q3 q4 hr
        go_wp2_with fail
        go_ret
        exact ⟨by rw [HFIN.out, ← HR.out]; rfl, HB5.out⟩

set_option maxRecDepth 100000 in
set_option maxHeartbeats 4000000 in
theorem qRight_calls (q : Dx.Qy) (cs : List Value) (w : World) (ok : Nat → Prop) (hM : Dx.count q ≤ 1000000) (hf : Dx.qfit maxLen q) (hj : QyAt w ok q cs) (hg : Glb w) :
    Calls Tryz.prog 35 #[.agg cs.toArray] w fun e w' => e = .returned (.bool (Dx.right q)) ∧ Below w.heap.size w w' := by
  obtain ⟨Q, hQ⟩ : ∃ Q, Q = q := ⟨_, rfl⟩
  obtain ⟨k, t, a, b, c⟩ := q
  obtain ⟨sa, sb, sc, rfl, ra, rb, rc⟩ := hj.all.rows
  obtain ⟨aa, ca, rfl⟩ := ra.shape
  obtain ⟨ab, cb, rfl⟩ := rb.shape
  obtain ⟨ac, cc, rfl⟩ := rc.shape
  rw [← hQ] at hj hM hf ⊢
  have J := Lib.hid hj.all; have HM := Lib.hid hM; have HF := Lib.hid hf; have HG := Lib.hid hg
  have HB0 := Lib.hid ((Below.refl w.heap.size w).alloc (Nat.le_refl _) (.cells #[.int .i64 k, .string ⟨t.toArray⟩, .slice aa a.length ca, .slice ab b.length cb, .slice ac c.length cc] 26))
  have BOX := Lib.hid (heap_alloc_new w (.cells #[.int .i64 k, .string ⟨t.toArray⟩, .slice aa a.length ca, .slice ab b.length cb, .slice ac c.length cc] 26))
  have hR : Dx.right Q = (decide (sizeA Q ≤ 100) && decide (sizeB Q ≤ 20) && Dx.nodesOk Q) := by
    unfold Dx.right sizeA sizeB
    by_cases h : Dx.count Q ≤ 1000
    · rw [if_pos h, if_pos h]
      have e1 : decide ((Dx.count Q : Int) ≤ 100) = decide (Dx.count Q ≤ 100) := by simp; omega
      have e2 : decide ((Dx.deep Q : Int) ≤ 20) = decide (Dx.deep Q ≤ 20) := by simp; omega
      rw [e1, e2]
    · rw [if_neg h, if_neg h]
      have e1 : decide (Dx.count Q ≤ 100) = false := by simp; omega
      rw [e1]; simp
  obtain ⟨A, hA⟩ : ∃ A, A = sizeA Q := ⟨_, rfl⟩
  obtain ⟨B, hB⟩ : ∃ B, B = sizeB Q := ⟨_, rfl⟩
  rw [← hA, ← hB] at hR
  have HRR := Lib.hid hR
  have HA := Lib.hid hA; have HBB := Lib.hid hB
  clear hQ ra rb rc hM hj hf hg hR hA hB
  go_enter Tryz.func35, Tryz.ntmps35
  go_wp2_with fail
  refine (qSize_calls Q [.int .i64 k, .string ⟨t.toArray⟩, .slice aa a.length ca, .slice ab b.length cb, .slice ac c.length cc] _ _ HM.out (J.out.below HB0.out)).mono ?_
  rintro e w1 ⟨rfl, hb⟩
  rw [← HA.out, ← HBB.out]
  have HB1 := Lib.hid (HB0.out.trans (hb.mono HB0.out.size))
  have BOX1 := Lib.hid ((hb.block _ (heap_lt BOX.out)).trans BOX.out)
  obtain ⟨q0, q1, q2, q3, q4, _⟩ := cells5 BOX1.out
  clear hb
  by_cases h1 : A ≤ 100
  · have h1b : decide (A ≤ 100) = true := by simpa using h1
    by_cases h2 : B ≤ 20
    · have h2b : decide (B ≤ 20) = true := by simpa using h2
      obtain ⟨r, hr⟩ : ∃ r, r = Dx.nodesOk Q := ⟨_, rfl⟩
      have HR := Lib.hid hr
      have HFIN := Lib.hid (show Dx.right Q = r by rw [HRR.out, ← hr, h1b, h2b, Bool.true_and, Bool.true_and])
      clear hr
      go_wp2_with fail
      refine (qnodes_calls _ Q [.int .i64 k, .string ⟨t.toArray⟩, .slice aa a.length ca, .slice ab b.length cb, .slice ac c.length cc] _ _ (Nat.le_refl _) HM.out HF.out (J.out.below HB1.out) (HG.out.below HB1.out)).mono ?_
      rw [← HR.out]
      rintro e w2 ⟨rfl, hb⟩
      have HB2 := Lib.hid (HB1.out.trans (hb.mono HB1.out.size))
      clear hb q0 q1 q2 q3 q4
      go_wp2_with fail
      go_ret
      exact ⟨by rw [HFIN.out]; rfl, HB2.out⟩
    · have h2b : decide (B ≤ 20) = false := by simpa using h2
      have HFIN := Lib.hid (show Dx.right Q = false by rw [HRR.out, h1b, h2b, Bool.true_and, Bool.false_and])
      go_wp2_with fail
      go_ret
      exact ⟨by rw [HFIN.out]; rfl, HB1.out⟩
  · have h1b : decide (A ≤ 100) = false := by simpa using h1
    have HFIN := Lib.hid (show Dx.right Q = false by rw [HRR.out, h1b, Bool.false_and, Bool.false_and])
    go_wp2_with fail
    go_ret
    exact ⟨by rw [HFIN.out]; rfl, HB1.out⟩
end Go.Proofs.YtejlddimokmgjaaGreatDoor
namespace Go.Proofs.YtejlddimokmgjaaGreatDoor
open Go.RowKit

/-- What 'Search' answers: the query, from, size, an error. -/
def searchT (s : List UInt8) : Dx.Qy × Int × Int × Nat := match Dx.search s with
  | .ok (q, f, n) => (q, f, n, 0)
  | .error c => (.mk 0 [] [] [] [], 0, 0, c)
def SearchPost (s : List UInt8) (w : World) (e : Ending) (w' : World) : Prop :=
  ∃ cs : List Value, e = .returned (.tuple #[.agg cs.toArray, .int .i64 (searchT s).2.1, .int .i64 (searchT s).2.2.1, .int .i64 ((searchT s).2.2.2 : Nat)]) ∧ QyAt w' (fun g => w.heap.size ≤ g) (searchT s).1 cs ∧ Below w.heap.size w w'
theorem searchT_error {s : List UInt8} {c : Nat} (h : Dx.search s = .error c) : searchT s = (.mk 0 [] [] [] [], 0, 0, c) := by unfold searchT; rw [h]
theorem searchT_ok {s : List UInt8} {q : Dx.Qy} {f n : Int} (h : Dx.search s = .ok (q, f, n)) : searchT s = (q, f, n, 0) := by unfold searchT; rw [h]
theorem search_form {s : List UInt8} {e : Nat × Nat} (h : Cx.parse s = .error e) : Dx.search s = .error 7 := by unfold Dx.search; rw [h]
theorem search_flag {s : List UInt8} {v : Cx.J} (h : Cx.parse s = .ok v) (hf : ((Dx.only v [Dx.tQuery, Dx.tFrom, Dx.tSize] && (Dx.number v Dx.tFrom 0 10000).isSome) && (Dx.number v Dx.tSize 10 100).isSome) = false) : Dx.search s = .error 18 := by
  unfold Dx.search
  rw [h]
  simp only
  cases h1 : Dx.number v Dx.tFrom 0 10000 with
  | none => rfl
  | some x =>
    cases h2 : Dx.number v Dx.tSize 10 100 with
    | none => rfl
    | some y =>
      cases h3 : Cx.get v Dx.tQuery with
      | none => rfl
      | some k =>
        simp only
        cases h4 : Dx.nodeQ k with
        | none => rfl
        | some q =>
          simp only
          rw [h1, h2] at hf
          simp only [Option.isSome_some, Bool.and_true] at hf
          rw [if_neg (fun h => by rw [hf] at h; cases h.1)]
theorem search_none {s : List UInt8} {v : Cx.J} (h : Cx.parse s = .ok v) (hf : Cx.get v Dx.tQuery = none) : Dx.search s = .error 18 := by
  unfold Dx.search
  rw [h]
  simp only [hf]
  cases Dx.number v Dx.tFrom 0 10000 <;> cases Dx.number v Dx.tSize 10 100 <;> rfl
theorem search_no {s : List UInt8} {v k : Cx.J} (h : Cx.parse s = .ok v) (hg : Cx.get v Dx.tQuery = some k) (hf : Dx.nodeQ k = none) : Dx.search s = .error 18 := by
  unfold Dx.search
  rw [h]
  simp only [hg]
  cases Dx.number v Dx.tFrom 0 10000 <;> cases Dx.number v Dx.tSize 10 100 <;> simp [hf]
theorem search_wrong {s : List UInt8} {v k : Cx.J} {q : Dx.Qy} (h : Cx.parse s = .ok v) (hg : Cx.get v Dx.tQuery = some k) (hn : Dx.nodeQ k = some q) (hf : Dx.right q = false) : Dx.search s = .error 18 := by
  unfold Dx.search
  rw [h]
  simp only [hg]
  cases Dx.number v Dx.tFrom 0 10000 <;> cases Dx.number v Dx.tSize 10 100 <;> simp [hn, hf]
theorem search_good {s : List UInt8} {v k : Cx.J} {q : Dx.Qy} {x y : Int} (h : Cx.parse s = .ok v) (h1 : ∀ z, Dx.number v Dx.tFrom 0 10000 = some z → x = z) (h2 : ∀ z, Dx.number v Dx.tSize 10 100 = some z → y = z) (hf : ((Dx.only v [Dx.tQuery, Dx.tFrom, Dx.tSize] && (Dx.number v Dx.tFrom 0 10000).isSome) && (Dx.number v Dx.tSize 10 100).isSome) = true)
    (hg : Cx.get v Dx.tQuery = some k) (hn : Dx.nodeQ k = some q) (hr : Dx.right q = true) : Dx.search s = .ok (q, x, y) := by
  simp only [Bool.and_eq_true] at hf
  obtain ⟨⟨ho, e1⟩, e2⟩ := hf
  obtain ⟨z1, e1⟩ := Option.isSome_iff_exists.1 e1
  obtain ⟨z2, e2⟩ := Option.isSome_iff_exists.1 e2
  unfold Dx.search
  rw [h]
  simp only [hg, e1, e2, hn]
  rw [if_pos ⟨ho, hr⟩, h1 z1 e1, h2 z2 e2]

theorem isSome_false {α : Type} {o : Option α} (h : false = o.isSome) : o = none := by
  cases o with
  | none => rfl
  | some x => cases h
/-- At the end of Search: what is laid into the result's box. -/
theorem search_fin {w wX : World} {Q : Dx.Qy} {x0 x1 x2 x3 x4 y0 y1 y2 y3 y4 : Value} (hb : Below w.heap.size w wX) (hr : wX.heap[w.heap.size]? = some (.cells #[x0, x1, x2, x3, x4] 26 (0, 0))) (hq : QyAt wX (fun g => w.heap.size + 1 ≤ g) Q [y0, y1, y2, y3, y4]) :
    QyAt (put5 wX w.heap.size y0 y1 y2 y3 y4) (fun g => w.heap.size ≤ g) Q [y0, y1, y2, y3, y4] ∧ (put5 wX w.heap.size y0 y1 y2 y3 y4).heap[w.heap.size]? = some (.cells #[y0, y1, y2, y3, y4] 26 (0, 0)) ∧ Below w.heap.size w (put5 wX w.heap.size y0 y1 y2 y3 y4) := by
  have hB : w.heap.size ≤ w.heap.size := Nat.le_refl _
  refine ⟨QyAt.kept (by rw [put5_size]; exact Nat.le_refl _) (fun g hg hl => ⟨put5_other (by omega), by omega⟩) _ _ hq, put5_heap hr, ?_⟩
  exact ((((hb.setCell (p := ⟨w.heap.size, 0, none⟩) hB _).setCell (p := ⟨w.heap.size, 1, none⟩) hB _).setCell (p := ⟨w.heap.size, 2, none⟩) hB _).setCell (p := ⟨w.heap.size, 3, none⟩) hB _).setCell (p := ⟨w.heap.size, 4, none⟩) hB _
theorem parse_callsL (s : List UInt8) (w : World) (hg : Glb w) (h8 : 8 ≤ w.heap.size) : Calls Tryz.prog 19 #[.string ⟨s.toArray⟩] w fun e w' =>
    ∃ cs : List Value, e = .returned (.tuple #[.agg cs.toArray, .int .i64 ((parseT s).2.1 : Nat), .int .i64 ((parseT s).2.2 : Nat)]) ∧ JAt w' (fun g => w.heap.size ≤ g) (parseT s).1 cs ∧ Below w.heap.size w w' := by
  have h := parse_calls ⟨s.toArray⟩ w hg h8
  unfold PRet at h
  rw [show (⟨s.toArray⟩ : ByteArray).data.toList = s by simp] at h
  exact h
theorem parse_short {s : List UInt8} {v : Cx.J} (h : Cx.parse s = .ok v) : s.length ≤ 100000 := by
  unfold Cx.parse at h
  split at h
  · cases h
  · omega
theorem parseT_ok {s : List UInt8} {v : Cx.J} (h : Cx.parse s = .ok v) : parseT s = (v, 0, 0) := by unfold parseT; rw [h]
theorem parseT_error {s : List UInt8} {e : Nat × Nat} (h : Cx.parse s = .error e) : parseT s = (.mk 0 false [] [] [], e.1, e.2) := by unfold parseT; rw [h]
theorem parse_fits {s : List UInt8} {v : Cx.J} (h : Cx.parse s = .ok v) : fit 100000 v := fit_le (parse_short h) v (Cx.parse_fit h)
theorem parse_nodes {s : List UInt8} {v : Cx.J} (h : Cx.parse s = .ok v) : Cx.nodes v ≤ 5000 := by
  have := Cx.parse_right h
  unfold Cx.Right at this
  simp only [Bool.and_eq_true, decide_eq_true_eq] at this
  exact this.1
theorem to_maxLen {v : Cx.J} (h : fit 100000 v) : fit maxLen v := fit_le (by unfold maxLen; omega) v h

mutual
theorem qfit_le {L M : Nat} (h : L ≤ M) : ∀ q : Dx.Qy, Dx.qfit L q → Dx.qfit M q
  | .mk k t a b c, hf => by
    unfold Dx.qfit at hf ⊢
    exact ⟨by omega, qfitK_le h a hf.2.1, qfitK_le h b hf.2.2.1, qfitK_le h c hf.2.2.2⟩
theorem qfitK_le {L M : Nat} (h : L ≤ M) : ∀ l : List Dx.Qy, Dx.qfitK L l → Dx.qfitK M l
  | [], _ => by unfold Dx.qfitK; trivial
  | q :: l, hf => by
    unfold Dx.qfitK at hf ⊢
    exact ⟨qfit_le h q hf.1, qfitK_le h l hf.2⟩
end

set_option maxRecDepth 100000 in
set_option maxHeartbeats 4000000 in
theorem search_calls (s : List UInt8) (w : World) (hg : Glb w) (h8 : 8 ≤ w.heap.size) :
    Calls Tryz.prog 11 #[.string ⟨s.toArray⟩] w (SearchPost s w) := by
  have HG := Lib.hid hg
  obtain ⟨W, hW⟩ : ∃ W, W = w.alloc (.cells #[.int .i64 0, .string ⟨#[]⟩, .slice none 0 0, .slice none 0 0, .slice none 0 0] 26) := ⟨_, rfl⟩
  have HB0 := Lib.hid (show Below w.heap.size w W by rw [hW]; exact (Below.refl w.heap.size w).alloc (Nat.le_refl _) _)
  have BR0 := Lib.hid (show W.heap[w.heap.size]? = some (.cells #[.int .i64 0, .string ⟨#[]⟩, .slice none 0 0, .slice none 0 0, .slice none 0 0] 26 (0, 0)) by rw [hW]; exact heap_alloc_new w _)
  have hWs : w.heap.size + 1 = W.heap.size := by rw [hW]; simp
  have hWs2 : w.heap.size + 1 ≤ W.heap.size := by omega
  have HWS := Lib.hid hWs
  have HW := Lib.hid hW
  clear hg hW hWs
  go_enter Tryz.func11, Tryz.ntmps11
  go_wp2_with fail
  rw [← HW.out]
  refine (parse_callsL s W (HG.out.below HB0.out) (by omega)).mono ?_
  rintro e w1 ⟨cs, rfl, hj, hb⟩
  have hs1 := hb.size
  have HB1 := Lib.hid (HB0.out.trans (hb.mono (by omega)))
  have BR1 := Lib.hid ((hb.block _ (by omega)).trans BR0.out)
  have l1 : w.heap.size < w1.heap.size := by omega
  have l2 : w.heap.size ≠ w1.heap.size := by omega
  cases hp : Cx.parse s with
  | error er =>
    have hne := Cx.parse_errne hp
    have ST := Lib.hid (searchT_error (search_form hp))
    rw [parseT_error hp] at hj ⊢
    obtain ⟨b, nb, b', kb, rfl⟩ := hj.shape
    have hei : ((er.1 : Int) != 0) = true := by rw [bne_iff_ne]; omega
    clear hj hb hp hne
    simp only
    obtain ⟨W2, hW2⟩ : ∃ W2, W2 = w1.alloc (.cells #[.int .i64 0, .bool false, .string ⟨#[]⟩, .slice b 0 nb, .slice b' 0 kb] 48) := ⟨_, rfl⟩
    have HB2 := Lib.hid (show Below w.heap.size w W2 by rw [hW2]; exact HB1.out.alloc HB1.out.size _)
    have BR2 := Lib.hid (show W2.heap[w.heap.size]? = some (.cells #[.int .i64 0, .string ⟨#[]⟩, .slice none 0 0, .slice none 0 0, .slice none 0 0] 26 (0, 0)) by rw [hW2, Below.heap_alloc _ _ _ l1]; exact BR1.out)
    have HW2 := Lib.hid hW2
    clear hW2
    go_upto_region 2 with fail
    rw [← HW2.out]
    obtain ⟨p0, p1, p2, p3, p4, pf⟩ := cells5 BR2.out
    have pf0 := pf 0; have pf1 := pf 1; have pf2 := pf 2; have pf3 := pf 3; have pf4 := pf 4
    clear pf
    have FIN := Lib.hid (search_fin (Q := .mk 0 [] [] [] []) HB2.out BR2.out QyAt.plain)
    go_wp2_with fail
    obtain ⟨fq, zb, fb⟩ := FIN.out
    obtain ⟨z0, z1, z2, z3, z4, _⟩ := cells5 zb
    exact bodyPost_ret (v := .tuple #[.agg #[.int .i64 0, .string ⟨#[]⟩, .slice none 0 0, .slice none 0 0, .slice none 0 0], .int .i64 0, .int .i64 0, .int .i64 7]) (by simp [results, Tryz.results11, go_sem, z0, z1, z2, z3, z4]) rfl ⟨_, by rw [ST.out]; rfl, by rw [ST.out]; exact fq, fb⟩
  | ok v =>
    have HP := Lib.hid hp
    have F := Lib.hid (parse_fits hp); have HRT := Lib.hid (Dx.Rt.parse hp); have HND := Lib.hid (parse_nodes hp)
    rw [parseT_ok hp] at hj ⊢
    simp only at hj ⊢
    clear hp
    obtain ⟨V, hV⟩ : ∃ V, V = v := ⟨_, rfl⟩
    cases v with
    | mk k is t ns ks =>
    obtain ⟨a, nc, a', kc, rfl⟩ := hj.shape
    rw [← hV] at hj HP F HRT HND
    clear hV
    obtain ⟨W2, hW2⟩ : ∃ W2, W2 = w1.alloc (.cells #[.int .i64 k, .bool is, .string ⟨t.toArray⟩, .slice a ns.length nc, .slice a' ks.length kc] 48) := ⟨_, rfl⟩
    have HB2 := Lib.hid (show Below w.heap.size w W2 by rw [hW2]; exact HB1.out.alloc HB1.out.size _)
    have BR2 := Lib.hid (show W2.heap[w.heap.size]? = some (.cells #[.int .i64 0, .string ⟨#[]⟩, .slice none 0 0, .slice none 0 0, .slice none 0 0] 26 (0, 0)) by rw [hW2, Below.heap_alloc _ _ _ l1]; exact BR1.out)
    have BV2 := Lib.hid (show W2.heap[w1.heap.size]? = some (.cells #[.int .i64 k, .bool is, .string ⟨t.toArray⟩, .slice a ns.length nc, .slice a' ks.length kc] 48 (0, 0)) by rw [hW2]; exact heap_alloc_new w1 _)
    have J2 := Lib.hid (show JAt W2 (fun g => g < W2.heap.size) V [.int .i64 k, .bool is, .string ⟨t.toArray⟩, .slice a ns.length nc, .slice a' ks.length kc] by
      rw [hW2]; exact (hj.all.below ((Below.refl w1.heap.size w1).alloc (Nat.le_refl _) (.cells #[.int .i64 k, .bool is, .string ⟨t.toArray⟩, .slice a ns.length nc, .slice a' ks.length kc] 48))).all)
    have hz2 : w1.heap.size < W2.heap.size := by rw [hW2]; simp
    have HW2 := Lib.hid hW2
    obtain ⟨W3, hW3⟩ : ∃ W3, W3 = W2.alloc (.cells #[.string ⟨#[113, 117, 101, 114, 121]⟩, .string ⟨#[102, 114, 111, 109]⟩, .string ⟨#[115, 105, 122, 101]⟩] 9) := ⟨_, rfl⟩
    have ROW := Lib.hid (show Row W3 (fun b => b < W3.heap.size) (.slice (some ⟨W2.heap.size, 0, none⟩) 3 3) 3 ([Dx.tQuery, Dx.tFrom, Dx.tSize].map strV) by
      rw [hW3]
      exact Row.laid (l := [Dx.tQuery, Dx.tFrom, Dx.tSize]) (heap_alloc_new W2 _) rfl (by decide))
    have b23 : Below W2.heap.size W2 W3 := by rw [hW3]; exact (Below.refl _ _).alloc (Nat.le_refl _) _
    have HB3 := Lib.hid (HB2.out.trans (b23.mono (by omega)))
    have J3 := Lib.hid ((J2.out.below b23).all)
    have BR3 := Lib.hid ((b23.block _ (by omega)).trans BR2.out)
    have BV3 := Lib.hid ((b23.block _ hz2).trans BV2.out)
    have hz3 := b23.size
    have HW3 := Lib.hid hW3
    clear hj hb hW2 hW3 b23
    go_upto_region 2 with fail
    rw [← HW2.out]
    obtain ⟨q0, q1, q2, q3, q4, _⟩ := cells5 BV2.out
    go_wp2_with fail
    rw [← HW3.out]
    refine (only_calls V [.int .i64 k, .bool is, .string ⟨t.toArray⟩, .slice a ns.length nc, .slice a' ks.length kc] (.slice (some ⟨W2.heap.size, 0, none⟩) 3 3) [Dx.tQuery, Dx.tFrom, Dx.tSize] W3 _ _ J3.out (to_maxLen F.out) ROW.out (by decide)).mono ?_
    rintro e w4 ⟨rfl, hb⟩
    obtain ⟨r0, hr0⟩ : ∃ r, r = Dx.only V [Dx.tQuery, Dx.tFrom, Dx.tSize] := ⟨_, rfl⟩
    rw [← hr0]
    have HR0 := Lib.hid hr0
    have hz4 := hb.size
    obtain ⟨W5, hW5⟩ : ∃ W5, W5 = w4.alloc (.cells #[.bool r0] 4) := ⟨_, rfl⟩
    have b35 : Below W3.heap.size W3 W5 := by rw [hW5]; exact hb.alloc hb.size _
    have HB5 := Lib.hid (HB3.out.trans (b35.mono (by omega)))
    have J5 := Lib.hid (show JAt W5 (fun g => g < w4.heap.size) V [.int .i64 k, .bool is, .string ⟨t.toArray⟩, .slice a ns.length nc, .slice a' ks.length kc] from JAt.kept b35.size (fun g hg hl => ⟨b35.block g hl, by omega⟩) _ _ J3.out)
    have BR5 := Lib.hid ((b35.block _ (by omega)).trans BR3.out)
    have BV5 := Lib.hid ((b35.block _ (by omega)).trans BV3.out)
    have BF5 := Lib.hid (show W5.heap[w4.heap.size]? = some (.cells #[.bool r0] 4 (0, 0)) by rw [hW5]; exact heap_alloc_new w4 _)
    have hz5 : w4.heap.size < W5.heap.size := by rw [hW5]; simp
    have HW5 := Lib.hid hW5
    clear q0 q1 q2 q3 q4 hb hr0 hW5 b35 HW2 HW3 J2 J3 BR2 BR3 BV2 BV3 ROW
    go_upto_region 6 with fail
    rw [← HW5.out]
    go_wp2_with fail
    -- from
    refine (show Calls Tryz.prog 33 #[.string ⟨#[102, 114, 111, 109]⟩, .int .i64 0, .int .i64 10000, .pointer (some ⟨w1.heap.size, 0, none⟩), .pointer (some ⟨w4.heap.size, 0, none⟩)] _ _ from numberQ_calls V [.int .i64 k, .bool is, .string ⟨t.toArray⟩, .slice a ns.length nc, .slice a' ks.length kc] Dx.tFrom 0 10000 r0 w1.heap.size w4.heap.size W5 _ BV5.out BF5.out J5.out (to_maxLen F.out)).mono ?_
    rintro e x6 ⟨n1, rfl, hn1, hbf, hmv⟩
    have HN1 := Lib.hid hn1
    obtain ⟨s1, hs1⟩ : ∃ s, s = (Dx.number V Dx.tFrom 0 10000).isSome := ⟨_, rfl⟩
    rw [← hs1] at hbf
    have HS1 := Lib.hid hs1
    have BF6 := Lib.hid hbf
    have hz6 := hmv.size
    have J6 := Lib.hid (JAt.kept (ok' := fun g => g < w4.heap.size) hmv.size (fun g hg hl => ⟨hmv.block g hl (by simp; omega), hg⟩) _ _ J5.out)
    have BR6 := Lib.hid (hmv.heap BR5.out (by omega))
    have BV6 := Lib.hid (hmv.heap BV5.out (by omega))
    have HB6 := Lib.hid (Mv.to_below HB5.out hmv (by omega) (by omega))
    clear hn1 hbf hs1 hmv
    go_wp2_with fail
    -- size
    refine (show Calls Tryz.prog 33 #[.string ⟨#[115, 105, 122, 101]⟩, .int .i64 10, .int .i64 100, .pointer (some ⟨w1.heap.size, 0, none⟩), .pointer (some ⟨w4.heap.size, 0, none⟩)] _ _ from numberQ_calls V [.int .i64 k, .bool is, .string ⟨t.toArray⟩, .slice a ns.length nc, .slice a' ks.length kc] Dx.tSize 10 100 _ w1.heap.size w4.heap.size x6 _ BV6.out BF6.out J6.out (to_maxLen F.out)).mono ?_
    rintro e x7 ⟨n2, rfl, hn2, hbf, hmv⟩
    have HN2 := Lib.hid hn2
    obtain ⟨s2, hs2⟩ : ∃ s, s = (Dx.number V Dx.tSize 10 100).isSome := ⟨_, rfl⟩
    rw [← hs2] at hbf
    have HS2 := Lib.hid hs2
    obtain ⟨f, hf⟩ : ∃ f, f = ((r0 && s1) && s2) := ⟨_, rfl⟩
    rw [← hf] at hbf
    have HF := Lib.hid hf
    have BF7 := Lib.hid hbf
    have hz7 := hmv.size
    have J7 := Lib.hid (JAt.kept (ok' := fun g => g < w4.heap.size) hmv.size (fun g hg hl => ⟨hmv.block g hl (by simp; omega), hg⟩) _ _ J6.out)
    have BR7 := Lib.hid (hmv.heap BR6.out (by omega))
    have BV7 := Lib.hid (hmv.heap BV6.out (by omega))
    have HB7 := Lib.hid (Mv.to_below HB6.out hmv (by omega) (by omega))
    clear hn2 hbf hs2 hmv hf HW5 J5 BR5 BV5 BF5 HB5 J6 BR6 BV6 BF6 HB6
    obtain ⟨q0, q1, q2, q3, q4, _⟩ := cells5 BV7.out
    go_wp2_with fail
    refine (show Calls Tryz.prog 21 #[.agg #[.int .i64 k, .bool is, .string ⟨t.toArray⟩, .slice a ns.length nc, .slice a' ks.length kc], .string ⟨#[113, 117, 101, 114, 121]⟩] _ _ from get_calls V [.int .i64 k, .bool is, .string ⟨t.toArray⟩, .slice a ns.length nc, .slice a' ks.length kc] Dx.tQuery x7 _ J7.out (to_maxLen F.out)).mono ?_
    rintro e x8 ⟨cs8, rfl, hj8, hb⟩
    have hz8 := hb.size
    have HB8 := Lib.hid (HB7.out.trans (hb.mono (by omega)))
    have BR8 := Lib.hid ((hb.block _ (by omega)).trans BR7.out)
    have BF8 := Lib.hid ((hb.block _ (by omega)).trans BF7.out)
    obtain ⟨K, hK⟩ : ∃ K, K = (Cx.get V Dx.tQuery).getD (.mk 0 false [] [] []) := ⟨_, rfl⟩
    obtain ⟨g, hg⟩ : ∃ g, g = (Cx.get V Dx.tQuery).isSome := ⟨_, rfl⟩
    rw [← hK] at hj8
    rw [← hg]
    have FK := Lib.hid (show fit 100000 K by
      rw [hK]
      cases h : Cx.get V Dx.tQuery with
      | none => exact Cx.fit_leaf (by simp)
      | some k => exact Dx.get_fit F.out h)
    have NK := Lib.hid (show NR K by
      rw [hK]
      cases h : Cx.get V Dx.tQuery with
      | none => exact ⟨fun _ => rfl, fun _ h => by cases h⟩
      | some k => exact NR.of (Dx.get_right HRT.out h))
    have HK := Lib.hid hK; have HGG := Lib.hid hg
    clear q0 q1 q2 q3 q4 hb hK hg HB7 BR7 BF7 BV7 J7
    obtain ⟨K', hK'⟩ : ∃ K', K' = K := ⟨_, rfl⟩
    cases K with
    | mk k2 is2 t2 ns2 ks2 =>
    obtain ⟨a2, nc2, a2', kc2, rfl⟩ := hj8.shape
    rw [← hK'] at hj8 FK NK HK
    clear hK'
    obtain ⟨W9, hW9⟩ : ∃ W9, W9 = x8.alloc (.cells #[.int .i64 k2, .bool is2, .string ⟨t2.toArray⟩, .slice a2 ns2.length nc2, .slice a2' ks2.length kc2] 48) := ⟨_, rfl⟩
    have HB9 := Lib.hid (show Below w.heap.size w W9 by rw [hW9]; exact HB8.out.alloc HB8.out.size _)
    have b89 : Below x8.heap.size x8 W9 := by rw [hW9]; exact (Below.refl _ _).alloc (Nat.le_refl _) _
    have BR9 := Lib.hid ((b89.block _ (by omega)).trans BR8.out)
    have BF9 := Lib.hid ((b89.block _ (by omega)).trans BF8.out)
    have BX9 := Lib.hid (show W9.heap[x8.heap.size]? = some (.cells #[.int .i64 k2, .bool is2, .string ⟨t2.toArray⟩, .slice a2 ns2.length nc2, .slice a2' ks2.length kc2] 48 (0, 0)) by rw [hW9]; exact heap_alloc_new x8 _)
    have J9 := Lib.hid ((hj8.all.below b89).all)
    have hz9 : x8.heap.size < W9.heap.size := by rw [hW9]; simp
    have HW9 := Lib.hid hW9
    clear hj8 b89 hW9 HB8 BR8 BF8
    go_upto_region 8 with fail
    rw [← HW9.out]
    obtain ⟨q0, q1, q2, q3, q4, _⟩ := cells5 BX9.out
    go_wp2_with fail
    refine (node_calls K' [.int .i64 k2, .bool is2, .string ⟨t2.toArray⟩, .slice a2 ns2.length nc2, .slice a2' ks2.length kc2] W9 _ J9.out FK.out NK.out).mono ?_
    rintro e x10 ⟨Q, qcs, rfl, hqa, hqp, hb⟩
    obtain ⟨QQ, hQQ⟩ : ∃ QQ, QQ = Q := ⟨_, rfl⟩
    obtain ⟨xk, xt, A, B, C⟩ := Q
    obtain ⟨c1, c2, c3, rfl, r1, r2, r3⟩ := hqa.rows
    obtain ⟨xa1, xc1, rfl⟩ := r1.shape
    obtain ⟨xa2, xc2, rfl⟩ := r2.shape
    obtain ⟨xa3, xc3, rfl⟩ := r3.shape
    rw [← hQQ] at hqa hqp
    obtain ⟨nb, hnb⟩ : ∃ f, f = (Dx.nodeQ K').isSome := ⟨_, rfl⟩
    rw [← hnb]
    have hz10 := hb.size
    have HB10 := Lib.hid (HB9.out.trans (hb.mono (by omega)))
    have BR10 := Lib.hid ((hb.block _ (by omega)).trans BR9.out)
    have BF10 := Lib.hid ((hb.block _ (by omega)).trans BF9.out)
    have HQP := Lib.hid hqp; have HNB := Lib.hid hnb
    obtain ⟨W11, hW11⟩ : ∃ W11, W11 = x10.alloc (.cells #[.int .i64 xk, .string ⟨xt.toArray⟩, .slice xa1 A.length xc1, .slice xa2 B.length xc2, .slice xa3 C.length xc3] 26) := ⟨_, rfl⟩
    have b1011 : Below x10.heap.size x10 W11 := by rw [hW11]; exact (Below.refl _ _).alloc (Nat.le_refl _) _
    have HB11 := Lib.hid (HB10.out.trans (b1011.mono (by omega)))
    have BR11 := Lib.hid ((b1011.block _ (by omega)).trans BR10.out)
    have BF11 := Lib.hid ((b1011.block _ (by omega)).trans BF10.out)
    have BQ11 := Lib.hid (show W11.heap[x10.heap.size]? = some (.cells #[.int .i64 xk, .string ⟨xt.toArray⟩, .slice xa1 A.length xc1, .slice xa2 B.length xc2, .slice xa3 C.length xc3] 26 (0, 0)) by rw [hW11]; exact heap_alloc_new x10 _)
    have Q11 := Lib.hid (show QyAt W11 (fun g => w.heap.size + 1 ≤ g) QQ [.int .i64 xk, .string ⟨xt.toArray⟩, .slice xa1 A.length xc1, .slice xa2 B.length xc2, .slice xa3 C.length xc3] from QyAt.kept b1011.size (fun g hg hl => ⟨b1011.block g hl, by omega⟩) _ _ hqa)
    have hz11 := b1011.size
    have HW11 := Lib.hid hW11
    clear q0 q1 q2 q3 q4 hb hqa hqp hnb r1 r2 r3 hQQ b1011 hW11 HB10 BR10 BF10 HB9 BR9 BF9 BX9 J9 HW9
    go_upto_region 9 with fail
    rw [← HW11.out]
    obtain ⟨q0, q1, q2, q3, q4, _⟩ := cells5 BQ11.out
    have c0 : W11.cell? ⟨w4.heap.size, 0, none⟩ = some (.bool f) := by have := BF11.out; simp [World.cell?, this]
    clear HW11
    cases f with
    | false =>
      have ST := Lib.hid (searchT_error (search_flag HP.out (by rw [← HR0.out, ← HS1.out, ← HS2.out]; exact HF.out.symm)))
      obtain ⟨p0, p1, p2, p3, p4, pf⟩ := cells5 BR11.out
      have pf0 := pf 0; have pf1 := pf 1; have pf2 := pf 2; have pf3 := pf 3; have pf4 := pf 4
      clear pf
      have FIN := Lib.hid (search_fin (Q := .mk 0 [] [] [] []) HB11.out BR11.out QyAt.plain)
      go_wp2_with fail
      obtain ⟨fq, zb, fb⟩ := FIN.out
      obtain ⟨z0, z1, z2, z3, z4, _⟩ := cells5 zb
      exact bodyPost_ret (v := .tuple #[.agg #[.int .i64 0, .string ⟨#[]⟩, .slice none 0 0, .slice none 0 0, .slice none 0 0], .int .i64 0, .int .i64 0, .int .i64 18]) (by simp [results, Tryz.results11, go_sem, z0, z1, z2, z3, z4]) rfl ⟨_, by rw [ST.out]; rfl, by rw [ST.out]; exact fq, fb⟩
    | true =>
    cases g with
    | false =>
      have ST := Lib.hid (searchT_error (search_none HP.out (isSome_false HGG.out)))
      obtain ⟨p0, p1, p2, p3, p4, pf⟩ := cells5 BR11.out
      have pf0 := pf 0; have pf1 := pf 1; have pf2 := pf 2; have pf3 := pf 3; have pf4 := pf 4
      clear pf
      have FIN := Lib.hid (search_fin (Q := .mk 0 [] [] [] []) HB11.out BR11.out QyAt.plain)
      go_wp2_with fail
      obtain ⟨fq, zb, fb⟩ := FIN.out
      obtain ⟨z0, z1, z2, z3, z4, _⟩ := cells5 zb
      exact bodyPost_ret (v := .tuple #[.agg #[.int .i64 0, .string ⟨#[]⟩, .slice none 0 0, .slice none 0 0, .slice none 0 0], .int .i64 0, .int .i64 0, .int .i64 18]) (by simp [results, Tryz.results11, go_sem, z0, z1, z2, z3, z4]) rfl ⟨_, by rw [ST.out]; rfl, by rw [ST.out]; exact fq, fb⟩
    | true =>
    obtain ⟨kk, hkk⟩ : ∃ kk, Cx.get V Dx.tQuery = some kk := Option.isSome_iff_exists.1 HGG.out.symm
    have HKK := Lib.hid (show Cx.get V Dx.tQuery = some K' by rw [HK.out, hkk]; rfl)
    clear hkk
    cases nb with
    | false =>
      have ST := Lib.hid (searchT_error (search_no HP.out HKK.out (isSome_false HNB.out)))
      obtain ⟨p0, p1, p2, p3, p4, pf⟩ := cells5 BR11.out
      have pf0 := pf 0; have pf1 := pf 1; have pf2 := pf 2; have pf3 := pf 3; have pf4 := pf 4
      clear pf
      have FIN := Lib.hid (search_fin (Q := .mk 0 [] [] [] []) HB11.out BR11.out QyAt.plain)
      go_wp2_with fail
      obtain ⟨fq, zb, fb⟩ := FIN.out
      obtain ⟨z0, z1, z2, z3, z4, _⟩ := cells5 zb
      exact bodyPost_ret (v := .tuple #[.agg #[.int .i64 0, .string ⟨#[]⟩, .slice none 0 0, .slice none 0 0, .slice none 0 0], .int .i64 0, .int .i64 0, .int .i64 18]) (by simp [results, Tryz.results11, go_sem, z0, z1, z2, z3, z4]) rfl ⟨_, by rw [ST.out]; rfl, by rw [ST.out]; exact fq, fb⟩
    | true =>
    obtain ⟨qq, hqq⟩ : ∃ qq, Dx.nodeQ K' = some qq := Option.isSome_iff_exists.1 HNB.out.symm
    have HQQ := Lib.hid (show Dx.nodeQ K' = some QQ by rw [HQP.out qq hqq]; exact hqq)
    clear hqq
    have SZQ := Lib.hid (Dx.nodeQ_size FK.out HQQ.out)
    have HKN := Lib.hid (Nat.le_trans (Nat.le_of_lt (Dx.nodes_kid (Dx.get_mem HKK.out))) HND.out)
    go_wp2_with fail
    refine (qRight_calls QQ [.int .i64 xk, .string ⟨xt.toArray⟩, .slice xa1 A.length xc1, .slice xa2 B.length xc2, .slice xa3 C.length xc3] W11 _ (by have := SZQ.out.1; have := HKN.out; omega) (by have h := SZQ.out.2; exact qfit_le (show 100000 ≤ maxLen by unfold maxLen; omega) _ h) Q11.out (HG.out.below HB11.out)).mono ?_
    rintro e x12 ⟨rfl, hb⟩
    obtain ⟨rr, hrr⟩ : ∃ r, r = Dx.right QQ := ⟨_, rfl⟩
    rw [← hrr]
    have HRR := Lib.hid hrr
    have hz12 := hb.size
    have HB12 := Lib.hid (HB11.out.trans (hb.mono (by omega)))
    have BR12 := Lib.hid ((hb.block _ (by omega)).trans BR11.out)
    have BQ12 := Lib.hid ((hb.block _ (heap_lt BQ11.out)).trans BQ11.out)
    have Q12 := Lib.hid (QyAt.kept (ok' := fun g => w.heap.size + 1 ≤ g) hb.size (fun g hg hl => ⟨hb.block g hl, hg⟩) _ _ Q11.out)
    clear q0 q1 q2 q3 q4 c0 hb hrr
    cases rr with
    | false =>
      have ST := Lib.hid (searchT_error (search_wrong HP.out HKK.out HQQ.out HRR.out.symm))
      obtain ⟨p0, p1, p2, p3, p4, pf⟩ := cells5 BR12.out
      have pf0 := pf 0; have pf1 := pf 1; have pf2 := pf 2; have pf3 := pf 3; have pf4 := pf 4
      clear pf
      have FIN := Lib.hid (search_fin (Q := .mk 0 [] [] [] []) HB12.out BR12.out QyAt.plain)
      go_wp2_with fail
      obtain ⟨fq, zb, fb⟩ := FIN.out
      obtain ⟨z0, z1, z2, z3, z4, _⟩ := cells5 zb
      exact bodyPost_ret (v := .tuple #[.agg #[.int .i64 0, .string ⟨#[]⟩, .slice none 0 0, .slice none 0 0, .slice none 0 0], .int .i64 0, .int .i64 0, .int .i64 18]) (by simp [results, Tryz.results11, go_sem, z0, z1, z2, z3, z4]) rfl ⟨_, by rw [ST.out]; rfl, by rw [ST.out]; exact fq, fb⟩
    | true =>
      have ST := Lib.hid (searchT_ok (search_good HP.out HN1.out HN2.out (by rw [← HR0.out, ← HS1.out, ← HS2.out]; exact HF.out.symm) HKK.out HQQ.out HRR.out.symm))
      obtain ⟨q0, q1, q2, q3, q4, _⟩ := cells5 BQ12.out
      obtain ⟨p0, p1, p2, p3, p4, pf⟩ := cells5 BR12.out
      have pf0 := pf 0; have pf1 := pf 1; have pf2 := pf 2; have pf3 := pf 3; have pf4 := pf 4
      clear pf
      have FIN := Lib.hid (search_fin HB12.out BR12.out Q12.out)
      go_wp2_with fail
      obtain ⟨fq, zb, fb⟩ := FIN.out
      obtain ⟨z0, z1, z2, z3, z4, _⟩ := cells5 zb
      exact bodyPost_ret (v := .tuple #[.agg #[.int .i64 xk, .string ⟨xt.toArray⟩, .slice xa1 A.length xc1, .slice xa2 B.length xc2, .slice xa3 C.length xc3], .int .i64 n1, .int .i64 n2, .int .i64 0]) (by simp [results, Tryz.results11, go_sem, z0, z1, z2, z3, z4]) rfl ⟨_, by rw [ST.out]; rfl, by rw [ST.out]; exact fq, fb⟩
end Go.Proofs.YtejlddimokmgjaaGreatDoor
namespace Go.Proofs.YtejlddimokmgjaaGreatDoor
open Go.RowKit

theorem cells3 {w : World} {g : Nat} {a b c : Value} {T : TypeId} (h : w.heap[g]? = some (.cells #[a, b, c] T (0, 0))) :
    w.cell? ⟨g, 0, none⟩ = some a ∧ w.cell? ⟨g, 1, none⟩ = some b ∧ w.cell? ⟨g, 2, none⟩ = some c ∧ ∀ o, w.frozen? ⟨g, o, none⟩ = false := by
  refine ⟨?_, ?_, ?_, fun o => ?_⟩ <;> simp [World.cell?, World.frozen?, h]

theorem set3_heap {w : World} {g : Nat} {a b c x y z : Value} {T : TypeId} (h : w.heap[g]? = some (.cells #[a, b, c] T (0, 0))) :
    (((w.setCell ⟨g, 0, none⟩ x).setCell ⟨g, 1, none⟩ y).setCell ⟨g, 2, none⟩ z).heap[g]? = some (.cells #[x, y, z] T (0, 0)) := by
  simp [World.setCell, Array.getElem?_modify, h]

set_option maxRecDepth 100000 in
set_option maxHeartbeats 2000000 in
theorem op_calls (v : Cx.J) (cs : List Value) (w : World) (ok : Nat → Prop) (hj : JAt w ok v cs) (hf : fit maxLen v) (hr : Dx.Rt v) :
    Calls Tryz.prog 37 #[.agg cs.toArray] w (OpPost v w) := by
  have hfx := single_fit hf
  cases v with
  | mk k is t ns ks =>
  have hj := hj.all
  obtain ⟨a, nc, a', kc, rfl⟩ := hj.shape
  obtain ⟨V, hV⟩ : ∃ V, V = Cx.J.mk k is t ns ks := ⟨_, rfl⟩
  rw [← hV] at hj hf hfx hr ⊢
  obtain ⟨X, hX⟩ : ∃ X, X = singleV V := ⟨_, rfl⟩
  obtain ⟨nm, hnm⟩ : ∃ nm, nm = singleN V := ⟨_, rfl⟩
  obtain ⟨b1, hb1⟩ : ∃ b1, b1 = (Dx.single V).isSome := ⟨_, rfl⟩
  rw [← hX] at hfx
  have J := Lib.hid hj; have F := Lib.hid hfx; have HR := Lib.hid hr; have HX := Lib.hid hX; have HNM := Lib.hid hnm; have HB := Lib.hid hb1
  have HB1 := Lib.hid (((Below.refl w.heap.size w).alloc (Nat.le_refl _) (.cells #[.int .i64 k, .bool is, .string ⟨t.toArray⟩, .slice a ns.length nc, .slice a' ks.length kc] 48)).alloc (by simp) (.cells #[.bool false, .string ⟨#[]⟩, .string ⟨#[]⟩] 64))
  have RB := Lib.hid (show ((w.alloc (.cells #[.int .i64 k, .bool is, .string ⟨t.toArray⟩, .slice a ns.length nc, .slice a' ks.length kc] 48)).alloc (.cells #[.bool false, .string ⟨#[]⟩, .string ⟨#[]⟩] 64)).heap[w.heap.size + 1]? = some (.cells #[.bool false, .string ⟨#[]⟩, .string ⟨#[]⟩] 64 (0, 0)) from by have := heap_alloc_new (w.alloc (.cells #[.int .i64 k, .bool is, .string ⟨t.toArray⟩, .slice a ns.length nc, .slice a' ks.length kc] 48)) (.cells #[.bool false, .string ⟨#[]⟩, .string ⟨#[]⟩] 64); simpa using this)
  clear hj hf hfx hr hV hX hnm hb1
  go_enter Tryz.func37, Tryz.ntmps37
  go_wp2_with fail
  refine (single_calls V [.int .i64 k, .bool is, .string ⟨t.toArray⟩, .slice a ns.length nc, .slice a' ks.length kc] _ _ (J.out.below HB1.out) HR.out.names).mono ?_
  rintro e w1 ⟨cs1, rfl, hj1, hb⟩
  rw [← HX.out] at hj1
  rw [← HNM.out, ← HB.out]
  have HB2 := Lib.hid (HB1.out.trans (hb.mono HB1.out.size))
  have RB1 := Lib.hid ((hb.block _ (heap_lt RB.out)).trans RB.out)
  cases X with
  | mk k2 is2 t2 ns2 ks2 =>
  have hj1 := hj1.all
  obtain ⟨a2, nc2, a2', kc2, rfl⟩ := hj1.shape
  obtain ⟨Y, hY⟩ : ∃ Y, Y = Cx.J.mk k2 is2 t2 ns2 ks2 := ⟨_, rfl⟩
  rw [← hY] at hj1
  have J1 := Lib.hid hj1; have HY := Lib.hid hY
  clear hb hj1 hY
  go_wp2_with fail
  have HC1 := Lib.hid ((Below.refl w1.heap.size w1).alloc (Nat.le_refl _) (.cells #[.int .i64 k2, .bool is2, .string ⟨t2.toArray⟩, .slice a2 ns2.length nc2, .slice a2' ks2.length kc2] 48))
  have BOX := Lib.hid (heap_alloc_new w1 (.cells #[.int .i64 k2, .bool is2, .string ⟨t2.toArray⟩, .slice a2 ns2.length nc2, .slice a2' ks2.length kc2] 48))
  rw [← HY.out] at F
  refine (show Calls Tryz.prog 76 #[.agg [.int .i64 k2, .bool is2, .string ⟨t2.toArray⟩, .slice a2 ns2.length nc2, .slice a2' ks2.length kc2].toArray, .string ⟨#[105, 100]⟩] _ _ from dtext_calls Y [.int .i64 k2, .bool is2, .string ⟨t2.toArray⟩, .slice a2 ns2.length nc2, .slice a2' ks2.length kc2] Dx.tId _ _ (J1.out.below HC1.out) F.out).mono ?_
  rintro e w2 ⟨rfl, hb⟩
  have HC2 := Lib.hid (HC1.out.trans (hb.mono HC1.out.size))
  have BOX2 := Lib.hid ((hb.block _ (heap_lt BOX.out)).trans BOX.out)
  obtain ⟨q0, q1, q2, q3, q4, _⟩ := cells5 BOX2.out
  have RB2 := Lib.hid ((HC2.out.block _ (heap_lt RB1.out)).trans RB1.out)
  obtain ⟨i1, hi1⟩ : ∃ i1, i1 = textV Y Dx.tId := ⟨_, rfl⟩
  obtain ⟨b2, hb2⟩ : ∃ b2, b2 = (Dx.textOf Y Dx.tId).isSome := ⟨_, rfl⟩
  rw [← hi1, ← hb2]
  have HI1 := Lib.hid hi1; have HBB2 := Lib.hid hb2
  clear hb hi1 hb2
  go_wp2_with fail
  refine (show Calls Tryz.prog 76 #[.agg [.int .i64 k2, .bool is2, .string ⟨t2.toArray⟩, .slice a2 ns2.length nc2, .slice a2' ks2.length kc2].toArray, .string ⟨#[116, 101, 120, 116]⟩] _ _ from dtext_calls Y [.int .i64 k2, .bool is2, .string ⟨t2.toArray⟩, .slice a2 ns2.length nc2, .slice a2' ks2.length kc2] Dx.tText _ _ (J1.out.below HC2.out) F.out).mono ?_
  rintro e w3 ⟨rfl, hb⟩
  have HC3 := Lib.hid (HC2.out.trans (hb.mono HC2.out.size))
  have BOX3 := Lib.hid ((hb.block _ (heap_lt BOX2.out)).trans BOX2.out)
  have RB3 := Lib.hid ((hb.block _ (heap_lt RB2.out)).trans RB2.out)
  have HB3 := Lib.hid (HB2.out.trans (HC3.out.mono HB2.out.size))
  clear q0 q1 q2 q3 q4
  obtain ⟨q0, q1, q2, q3, q4, _⟩ := cells5 BOX3.out
  obtain ⟨i2, hi2⟩ : ∃ i2, i2 = textV Y Dx.tText := ⟨_, rfl⟩
  obtain ⟨b3, hb3⟩ : ∃ b3, b3 = (Dx.textOf Y Dx.tText).isSome := ⟨_, rfl⟩
  rw [← hi2, ← hb3]
  have HI2 := Lib.hid hi2; have HBB3 := Lib.hid hb3
  clear hb hi2 hb3 RB RB1 RB2 BOX BOX2 HB1 HB2 HC1 HC2
  obtain ⟨p0, p1, p2, pf⟩ := cells3 RB3.out
  have pf0 := pf 0; have pf1 := pf 1; have pf2 := pf 2
  clear pf
  have HY2 := Lib.hid HY.out.symm
  cases b1 with
  | false =>
    have NO := Lib.hid (op_none (v := V) (by rw [← HX.out, HY2.out, ← HB.out, ← HBB2.out]; rfl))
    go_wp2_with fail
    obtain ⟨z0, z1, z2, _⟩ := cells3 (set3_heap (x := .bool false) (y := .string ⟨#[]⟩) (z := .string ⟨#[]⟩) RB3.out)
    have hB : w.heap.size ≤ w.heap.size + 1 := Nat.le_succ _
    exact bodyPost_ret (v := .tuple #[.agg #[.bool false, .string ⟨#[]⟩, .string ⟨#[]⟩], .bool false]) (by simp [results, Tryz.results37, go_sem, z0, z1, z2]) rfl ⟨⟨false, [], []⟩, (by rw [NO.out]; rfl), fun p hp => (by rw [NO.out] at hp; cases hp), ((HB3.out.setCell (p := ⟨w.heap.size + 1, 0, none⟩) hB _).setCell (p := ⟨w.heap.size + 1, 1, none⟩) hB _).setCell (p := ⟨w.heap.size + 1, 2, none⟩) hB _⟩
  | true =>
    cases b2 with
    | false =>
      have NO := Lib.hid (op_none (v := V) (by rw [← HX.out, HY2.out, ← HB.out, ← HBB2.out]; rfl))
      go_wp2_with fail
      obtain ⟨z0, z1, z2, _⟩ := cells3 (set3_heap (x := .bool false) (y := .string ⟨#[]⟩) (z := .string ⟨#[]⟩) RB3.out)
      have hB : w.heap.size ≤ w.heap.size + 1 := Nat.le_succ _
      exact bodyPost_ret (v := .tuple #[.agg #[.bool false, .string ⟨#[]⟩, .string ⟨#[]⟩], .bool false]) (by simp [results, Tryz.results37, go_sem, z0, z1, z2]) rfl ⟨⟨false, [], []⟩, (by rw [NO.out]; rfl), fun p hp => (by rw [NO.out] at hp; cases hp), ((HB3.out.setCell (p := ⟨w.heap.size + 1, 0, none⟩) hB _).setCell (p := ⟨w.heap.size + 1, 1, none⟩) hB _).setCell (p := ⟨w.heap.size + 1, 2, none⟩) hB _⟩
    | true =>
      have OK := Lib.hid (show ((Dx.single V).isSome && (Dx.textOf (singleV V) Dx.tId).isSome) = true by rw [← HX.out, HY2.out, ← HB.out, ← HBB2.out]; rfl)
      by_cases hn : nm = Dx.tDelete
      · have hcmp : ((⟨nm.toArray⟩ : ByteArray) == ⟨#[100, 101, 108, 101, 116, 101]⟩) = true := by rw [hn]; rfl
        have hnl : nm = [100, 101, 108, 101, 116, 101] := hn
        have DEL := Lib.hid (op_del (v := V) OK.out (by rw [← HNM.out]; exact hn))
        clear hn
        have HC4 := Lib.hid (HC3.out.alloc HC3.out.size (.cells #[.string ⟨#[105, 100]⟩] 9))
        have HB4 := Lib.hid (HB3.out.alloc HB3.out.size (.cells #[.string ⟨#[105, 100]⟩] 9))
        have RB4 := Lib.hid ((Below.heap_alloc w3 (.cells #[.string ⟨#[105, 100]⟩] 9) _ (heap_lt RB3.out)).trans RB3.out)
        have ROW := Lib.hid (Row.laid (l := [Dx.tId]) (heap_alloc_new w3 (.cells #[.string ⟨#[105, 100]⟩] 9)) rfl (by decide))
        go_wp2_with fail
        clear p0 p1 p2 pf0 pf1 pf2 q0 q1 q2 q3 q4
        refine (only_calls Y [.int .i64 k2, .bool is2, .string ⟨t2.toArray⟩, .slice a2 ns2.length nc2, .slice a2' ks2.length kc2] (.slice (some ⟨w3.heap.size, 0, none⟩) 1 1) [Dx.tId] _ _ _ (J1.out.below HC4.out) F.out ROW.out (by decide)).mono ?_
        rintro e w4 ⟨rfl, hb⟩
        have HB5 := Lib.hid (HB4.out.trans (hb.mono HB4.out.size))
        have RB5 := Lib.hid ((hb.block _ (heap_lt RB4.out)).trans RB4.out)
        obtain ⟨p0, p1, p2, pf⟩ := cells3 RB5.out
        have pf0 := pf 0; have pf1 := pf 1; have pf2 := pf 2
        clear pf hb
        obtain ⟨z0, z1, z2, _⟩ := cells3 (set3_heap (x := .bool true) (y := .string ⟨i1.toArray⟩) (z := .string ⟨#[]⟩) RB5.out)
        have hB : w.heap.size ≤ w.heap.size + 1 := Nat.le_succ _
        obtain ⟨r, hr⟩ : ∃ r, r = Dx.only Y [Dx.tId] := ⟨_, rfl⟩
        rw [← hr]
        have DE2 := Lib.hid (show Dx.op V = if r = true then some ⟨true, i1, []⟩ else none by rw [DEL.out, ← HX.out, HY2.out, hr, HI1.out])
        clear hr
        go_wp2_with fail
        exact bodyPost_ret (v := .tuple #[.agg #[.bool true, .string ⟨i1.toArray⟩, .string ⟨#[]⟩], .bool r]) (by simp [results, Tryz.results37, go_sem, z0, z1, z2]) rfl ⟨⟨true, i1, []⟩, (by rw [DE2.out]; cases r <;> rfl), fun p hp => (by rw [DE2.out] at hp; cases r <;> simp at hp; exact hp), ((HB5.out.setCell (p := ⟨w.heap.size + 1, 0, none⟩) hB _).setCell (p := ⟨w.heap.size + 1, 1, none⟩) hB _).setCell (p := ⟨w.heap.size + 1, 2, none⟩) hB _⟩
      · have hcmp : (nm == [100, 101, 108, 101, 116, 101]) = false := beq_eq_false_iff_ne.2 hn
        have IX := op_ix (v := V) OK.out (by rw [← HNM.out]; exact hn)
        rw [← HNM.out, ← HX.out, HY2.out, ← HBB3.out, ← HI1.out, ← HI2.out] at IX
        have hB : w.heap.size ≤ w.heap.size + 1 := Nat.le_succ _
        by_cases hi : nm = Dx.tIndex
        · have hcmp2 : (nm == [105, 110, 100, 101, 120]) = true := beq_iff_eq.2 hi
          cases b3 with
          | false =>
            have NO := Lib.hid (show Dx.op V = none by rw [IX]; simp)
            clear IX hn hi
            obtain ⟨z0, z1, z2, _⟩ := cells3 (set3_heap (x := .bool false) (y := .string ⟨i1.toArray⟩) (z := .string ⟨i2.toArray⟩) RB3.out)
            go_wp2_with fail
            exact bodyPost_ret (v := .tuple #[.agg #[.bool false, .string ⟨i1.toArray⟩, .string ⟨i2.toArray⟩], .bool false]) (by simp [results, Tryz.results37, go_sem, z0, z1, z2]) rfl ⟨⟨false, i1, i2⟩, (by rw [NO.out]; rfl), fun p hp => (by rw [NO.out] at hp; cases hp), (((HB3.out.setCell (p := ⟨w.heap.size + 1, 0, none⟩) hB _).setCell (p := ⟨w.heap.size + 1, 1, none⟩) hB _).setCell (p := ⟨w.heap.size + 1, 2, none⟩) hB _)⟩
          | true =>
            have IX2 := Lib.hid (show Dx.op V = if Dx.only Y [Dx.tId, Dx.tText] = true then some ⟨false, i1, i2⟩ else none by rw [IX]; simp [hi])
            clear IX hn hi
            obtain ⟨W4, hW4⟩ : ∃ W4, W4 = w3.alloc (.cells #[.string ⟨#[105, 100]⟩, .string ⟨#[116, 101, 120, 116]⟩] 9) := ⟨_, rfl⟩
            have b34 : Below w3.heap.size w3 W4 := by rw [hW4]; exact (Below.refl _ _).alloc (Nat.le_refl _) _
            have HC4 := Lib.hid (HC3.out.trans (b34.mono HC3.out.size))
            have HB4 := Lib.hid (HB3.out.trans (b34.mono HB3.out.size))
            have RB4 := Lib.hid ((b34.block _ (heap_lt RB3.out)).trans RB3.out)
            have ROW := Lib.hid (show Row W4 (fun b => b < W4.heap.size) (.slice (some ⟨w3.heap.size, 0, none⟩) 2 2) 2 ([Dx.tId, Dx.tText].map strV) by
              rw [hW4]
              exact Row.laid (l := [Dx.tId, Dx.tText]) (heap_alloc_new w3 _) rfl (by decide))
            have HW4 := Lib.hid hW4
            clear hW4 b34
            go_wp2_with fail
            rw [← HW4.out]
            clear p0 p1 p2 pf0 pf1 pf2 q0 q1 q2 q3 q4
            refine (only_calls Y [.int .i64 k2, .bool is2, .string ⟨t2.toArray⟩, .slice a2 ns2.length nc2, .slice a2' ks2.length kc2] (.slice (some ⟨w3.heap.size, 0, none⟩) 2 2) [Dx.tId, Dx.tText] W4 _ _ (J1.out.below HC4.out) F.out ROW.out (by decide)).mono ?_
            rintro e w4 ⟨rfl, hb⟩
            have HB5 := Lib.hid (HB4.out.trans (hb.mono HB4.out.size))
            have RB5 := Lib.hid ((hb.block _ (heap_lt RB4.out)).trans RB4.out)
            obtain ⟨p0, p1, p2, pf⟩ := cells3 RB5.out
            have pf0 := pf 0; have pf1 := pf 1; have pf2 := pf 2
            clear pf hb
            obtain ⟨z0, z1, z2, _⟩ := cells3 (set3_heap (x := .bool false) (y := .string ⟨i1.toArray⟩) (z := .string ⟨i2.toArray⟩) RB5.out)
            obtain ⟨r, hr⟩ : ∃ r, r = Dx.only Y [Dx.tId, Dx.tText] := ⟨_, rfl⟩
            have DE2 := Lib.hid (show Dx.op V = if r = true then some ⟨false, i1, i2⟩ else none by rw [IX2.out, hr])
            rw [← hr]
            clear hr
            go_wp2_with fail
            exact bodyPost_ret (v := .tuple #[.agg #[.bool false, .string ⟨i1.toArray⟩, .string ⟨i2.toArray⟩], .bool r]) (by simp [results, Tryz.results37, go_sem, z0, z1, z2]) rfl ⟨⟨false, i1, i2⟩, (by rw [DE2.out]; cases r <;> rfl), fun p hp => (by rw [DE2.out] at hp; cases r <;> simp at hp; exact hp), (((HB5.out.setCell (p := ⟨w.heap.size + 1, 0, none⟩) hB _).setCell (p := ⟨w.heap.size + 1, 1, none⟩) hB _).setCell (p := ⟨w.heap.size + 1, 2, none⟩) hB _)⟩
        · have hcmp2 : (nm == [105, 110, 100, 101, 120]) = false := beq_eq_false_iff_ne.2 hi
          have NO := Lib.hid (show Dx.op V = none by rw [IX]; simp [hi])
          clear IX hn hi
          obtain ⟨z0, z1, z2, _⟩ := cells3 (set3_heap (x := .bool false) (y := .string ⟨i1.toArray⟩) (z := .string ⟨i2.toArray⟩) RB3.out)
          go_wp2_with fail
          exact bodyPost_ret (v := .tuple #[.agg #[.bool false, .string ⟨i1.toArray⟩, .string ⟨i2.toArray⟩], .bool false]) (by simp [results, Tryz.results37, go_sem, z0, z1, z2]) rfl ⟨⟨false, i1, i2⟩, (by rw [NO.out]; rfl), fun p hp => (by rw [NO.out] at hp; cases hp), (((HB3.out.setCell (p := ⟨w.heap.size + 1, 0, none⟩) hB _).setCell (p := ⟨w.heap.size + 1, 1, none⟩) hB _).setCell (p := ⟨w.heap.size + 1, 2, none⟩) hB _)⟩
end Go.Proofs.YtejlddimokmgjaaGreatDoor
namespace Go.Proofs.YtejlddimokmgjaaGreatDoor
open Go.RowKit

/-- What the variables hold that Bulk reads, too. -/
def GlbD (w : World) : Prop := Glb w ∧ ∃ m : Int, w.cell? ⟨2, 0, none⟩ = some (.int .i64 m)
theorem GlbD.below {w w' : World} (h : GlbD w) (k : Below w.heap.size w w') : GlbD w' := ⟨h.1.below k, by
  obtain ⟨m, hm⟩ := h.2
  exact ⟨m, (k.cell (World.block_lt_of_cell? w _ hm)).trans hm⟩⟩

theorem ixOf (l : List UInt8) (c : UInt8) : Lib.indexByte l c = if c ∈ l then (l.idxOf c : Int) else -1 := by
  induction l with
  | nil => rfl
  | cons b l ih =>
    simp only [Lib.indexByte]
    by_cases h : b = c
    · subst h; simp
    · have h' : (b == c) = false := by simpa using h
      have hm : c ∈ b :: l ↔ c ∈ l := by
        simp only [List.mem_cons]
        exact ⟨fun h2 => h2.resolve_left (Ne.symm h), .inr⟩
      rw [if_neg (by simp [h']), ih]
      by_cases hc : c ∈ l
      · rw [if_pos hc, if_pos (hm.2 hc), List.idxOf_cons, h', if_neg (by simp)]
        simp
      · rw [if_neg hc, if_neg (fun h2 => hc (hm.1 h2))]; rfl
theorem splitOf : ∀ (k : Nat) (l : List UInt8), Lib.splitK [10] 0 k l = Dx.linesN k l
  | 0, l => rfl
  | k + 1, l => by
    unfold Lib.splitK Dx.linesN
    rw [Lib.index_one, ixOf]
    by_cases h : 10 ∈ l
    · rw [if_pos h, if_neg (by simp), if_pos h, splitOf k]
      simp
    · rw [if_neg h, if_pos (by decide), if_neg h]
theorem split_calls (t : List UInt8) (w : World) (hg : GlbD w) (hl : t.length ≤ 1000000000) :
    Calls Tryz.prog 36 #[.string ⟨t.toArray⟩, .string ⟨#[10]⟩] w fun e w' => e = .returned (.slice (some ⟨w.heap.size, 0, none⟩) (Dx.lines t).length (Dx.lines t).length) ∧ w' = w.alloc (.cells ((Dx.lines t).map strV).toArray 9) := by
  obtain ⟨m, hm⟩ := hg.2
  have h := Tryz.strings_Split ⟨t.toArray⟩ ⟨#[10]⟩ m w (by have : (⟨t.toArray⟩ : ByteArray).size = t.length := rfl; omega) hm (by decide)
  have hd := Lib.splitB_data ⟨#[10]⟩ 0 (Lib.countB ⟨t.toArray⟩ ⟨#[10]⟩) ⟨t.toArray⟩
  have hc : Lib.countB ⟨t.toArray⟩ ⟨#[10]⟩ = t.count 10 := Lib.count_one 10 t
  have ha := Lib.splitB_all ⟨#[10]⟩ (by decide) 0 _ ⟨t.toArray⟩ rfl
  rw [hc] at h hd ha
  rw [show (⟨#[10]⟩ : ByteArray).data.toList = [10] from rfl, show (⟨t.toArray⟩ : ByteArray).data.toList = t by simp, splitOf] at hd
  have hs : (Dx.lines t).length = t.count 10 + 1 := by
    show (Dx.linesN _ _).length = _
    rw [← hd, List.length_map, ha]
  have hv : (Lib.splitB ⟨#[10]⟩ 0 (t.count 10) ⟨t.toArray⟩).map Value.string = (Dx.lines t).map strV := by
    show _ = (Dx.linesN _ _).map strV
    rw [← hd, List.map_map]
    rfl
  rw [hs, ← hv]
  exact h

/-! ### Ops in memory -/
def opCells (o : Dx.Op) : List Value := [.bool o.del, .string ⟨o.id.toArray⟩, .string ⟨o.text.toArray⟩]
def opsCells (l : List Dx.Op) : List Value := l.flatMap opCells
theorem opsCells_snoc (l : List Dx.Op) (o : Dx.Op) : opsCells (l ++ [o]) = opsCells l ++ opCells o := by simp [opsCells]
/-- A row of ops. -/
def ORow (w : World) (ok : Nat → Prop) (v : Value) (l : List Dx.Op) : Prop := Row w ok v l.length (opsCells l)
theorem ORow.shape {w : World} {ok : Nat → Prop} {v : Value} {l : List Dx.Op} (h : ORow w ok v l) : ∃ a c, v = .slice a l.length c := Row.shape h
theorem opsCells_get {o : Dx.Op} : ∀ {l : List Dx.Op} {i : Nat}, l[i]? = some o → (opsCells l)[i * 3]? = some (.bool o.del) ∧ (opsCells l)[i * 3 + 1]? = some (.string ⟨o.id.toArray⟩) ∧ (opsCells l)[i * 3 + 2]? = some (.string ⟨o.text.toArray⟩)
  | [], _, h => by simp at h
  | a :: l, 0, h => by
    simp only [List.getElem?_cons_zero, Option.some.injEq] at h
    subst h
    simp [opsCells, opCells]
  | a :: l, i + 1, h => by
    simp only [List.getElem?_cons_succ] at h
    obtain ⟨h0, h1, h2⟩ := opsCells_get h
    have e : opsCells (a :: l) = opCells a ++ opsCells l := by simp [opsCells]
    have hl : (opCells a).length = 3 := rfl
    rw [e]
    refine ⟨?_, ?_, ?_⟩
    · rw [show (i + 1) * 3 = i * 3 + 3 by omega, List.getElem?_append_right (by omega), hl]; simpa using h0
    · rw [show (i + 1) * 3 + 1 = i * 3 + 1 + 3 by omega, List.getElem?_append_right (by omega), hl]; simpa using h1
    · rw [show (i + 1) * 3 + 2 = i * 3 + 2 + 3 by omega, List.getElem?_append_right (by omega), hl]; simpa using h2
/-- The cells of an op. -/
theorem ORow.op {w : World} {ok : Nat → Prop} {a : Option Addr} {c : Nat} {l : List Dx.Op} (h : ORow w ok (.slice a l.length c) l) {i : Nat} {o : Dx.Op} (hi : l[i]? = some o) :
    ∃ g f, a = some ⟨g, f, none⟩ ∧ ok g ∧ g < w.heap.size ∧ w.cell? ⟨g, f + i * 3, none⟩ = some (.bool o.del) ∧ w.cell? ⟨g, f + i * 3 + 1, none⟩ = some (.string ⟨o.id.toArray⟩) ∧ w.cell? ⟨g, f + i * 3 + 2, none⟩ = some (.string ⟨o.text.toArray⟩) := by
  obtain ⟨h0, h1, h2⟩ := opsCells_get hi
  rcases h with ⟨hz, _⟩ | ⟨_, g, f, cap, hv, _, hg, hl, hc⟩
  · rw [List.length_eq_zero_iff.1 hz] at hi; simp at hi
  · injection hv with ha _ _
    exact ⟨g, f, ha, hg, hl, hc _ _ h0, hc _ _ h1, hc _ _ h2⟩
theorem ORow.below {B : Nat} {w w' : World} {v : Value} {l : List Dx.Op} (h : ORow w (fun g => g < B) v l) (k : Below B w w') : ORow w' (fun g => g < B) v l := Row.below h k
theorem ORow.all {w : World} {ok : Nat → Prop} {v : Value} {l : List Dx.Op} (h : ORow w ok v l) : ORow w (fun g => g < w.heap.size) v l :=
  Row.kept h (Nat.le_refl _) fun _ _ hl => ⟨rfl, hl⟩

/-- What 'Bulk' answers: an error, ops. -/
def bulkE (s : List UInt8) : Nat := match Dx.bulk s with | .ok _ => 0 | .error n => n
def bulkO (s : List UInt8) : List Dx.Op := match Dx.bulk s with | .ok l => l | .error _ => []
def BulkPost (s : List UInt8) (w : World) (e : Ending) (w' : World) : Prop :=
  ∃ sv : Value, e = .returned (.tuple #[sv, .int .i64 (bulkE s : Nat)]) ∧ ORow w' (fun g => w.heap.size ≤ g) sv (bulkO s) ∧ Below w.heap.size w w'
/-- What has been gathered, ahead of what comes. -/
def catE (a : List Dx.Op) (r : Except Nat (List Dx.Op)) : Except Nat (List Dx.Op) := match r with | .error e => .error e | .ok t => .ok (a ++ t)
theorem bulkL_skip {l : List UInt8} {r : List (List UInt8)} (h : l = [] ∨ l = [13]) : Dx.bulkL (l :: r) = Dx.bulkL r := by
  conv => lhs; unfold Dx.bulkL
  rw [if_pos h]
theorem bulkL_form {l : List UInt8} {r : List (List UInt8)} (h : ¬ (l = [] ∨ l = [13])) {e : Nat × Nat} (hp : Cx.parse l = .error e) : Dx.bulkL (l :: r) = .error 7 := by
  unfold Dx.bulkL
  rw [if_neg h, hp]
theorem bulkL_none {l : List UInt8} {r : List (List UInt8)} (h : ¬ (l = [] ∨ l = [13])) {v : Cx.J} (hp : Cx.parse l = .ok v) (ho : Dx.op v = none) : Dx.bulkL (l :: r) = .error 18 := by
  unfold Dx.bulkL
  rw [if_neg h, hp]
  simp only [ho]
theorem bulkL_some {l : List UInt8} {r : List (List UInt8)} (h : ¬ (l = [] ∨ l = [13])) {v : Cx.J} (hp : Cx.parse l = .ok v) {o : Dx.Op} (ho : Dx.op v = some o) (a : List Dx.Op) : catE a (Dx.bulkL (l :: r)) = catE (a ++ [o]) (Dx.bulkL r) := by
  conv => lhs; unfold Dx.bulkL
  rw [if_neg h, hp]
  simp only [ho]
  cases Dx.bulkL r <;> simp [catE]
theorem bulk_of_error {s : List UInt8} {n : Nat} (h : Dx.bulkL (Dx.lines s) = .error n) : bulkE s = n ∧ bulkO s = [] := by
  unfold bulkE bulkO Dx.bulk; rw [h]; exact ⟨rfl, rfl⟩
theorem bulk_of_ok {s : List UInt8} {l : List Dx.Op} (h : Dx.bulkL (Dx.lines s) = .ok l) : bulkE s = 0 ∧ bulkO s = l := by
  unfold bulkE bulkO Dx.bulk; rw [h]; exact ⟨rfl, rfl⟩
theorem linesN_length : ∀ (n : Nat) (s : List UInt8), (Dx.linesN n s).length ≤ n + 1
  | 0, s => by simp [Dx.linesN]
  | n + 1, s => by
    unfold Dx.linesN
    split
    · have := linesN_length n (s.drop (s.idxOf 10 + 1)); simp only [List.length_cons]; omega
    · simp
theorem lines_length (s : List UInt8) : (Dx.lines s).length ≤ s.length + 1 := by
  have h1 := linesN_length (s.count 10) s
  have h2 : s.count 10 ≤ s.length := List.count_le_length
  unfold Dx.lines; omega
theorem linesN_part : ∀ (n : Nat) (s l : List UInt8), l ∈ Dx.linesN n s → l.length ≤ s.length
  | 0, s, l, h => by simp [Dx.linesN] at h; subst h; exact Nat.le_refl _
  | n + 1, s, l, h => by
    unfold Dx.linesN at h
    split at h
    · rcases List.mem_cons.1 h with rfl | h
      · simp; omega
      · have := linesN_part n _ l h; simp only [List.length_drop] at this; omega
    · simp at h; subst h; exact Nat.le_refl _
theorem ownsRow_below {w w' : World} {B : Nat} {e : TypeId} {size : Nat} {v : Value} {n : Nat} {xs : List Value} (h : w.ownsRow B e size v n xs) (k : Below w.heap.size w w') : w'.ownsRow B e size v n xs :=
  h.kept (row := none) ⟨k.os, k.tape, k.output, k.size, fun i hi _ => k.block i hi⟩ (by
    rcases hs : v.ownBlock with _ | x
    · exact .inl rfl
    · right; simp)
theorem Below.grown {B : Nat} {w w1 w2 : World} {r : Option Nat} (h : Below B w w1) (k : w1.grownBy w2 r) (hB : B ≤ w1.heap.size) (hr : ∀ g, r = some g → B ≤ g) : Below B w w2 :=
  ⟨k.os.trans h.os, k.tape.trans h.tape, k.output.trans h.output, Nat.le_trans h.size k.size, fun i hi => (k.block i (by omega) (fun e => by have := hr i e.symm; omega)).trans (h.block i hi)⟩
theorem infoOp : (Tryz.prog.info? 64).map (fun i => (i.zero, i.size, i.bytes)) = some (some (.agg #[.bool false, .string ⟨#[]⟩, .string ⟨#[]⟩]), 3, 40) := by kernel_rfl

set_option maxRecDepth 100000 in
set_option maxHeartbeats 4000000 in
theorem bulk_calls (s : List UInt8) (w : World) (hg : GlbD w) (h8 : 8 ≤ w.heap.size) (hs : s.length ≤ 1000000) :
    Calls Tryz.prog 12 #[.string ⟨s.toArray⟩] w (BulkPost s w) := by
  obtain ⟨L, hL⟩ : ∃ L, L = Dx.lines s := ⟨_, rfl⟩
  have hLn : L.length ≤ 1000001 := by have := lines_length s; rw [hL]; omega
  have HG := Lib.hid hg; have HL := Lib.hid hL; have HS := Lib.hid hs
  clear hg hL hs
  go_enter Tryz.func12, Tryz.ntmps12
  go_wp2_with fail
  refine (split_calls s _ HG.out (by have := HS.out; omega)).mono ?_
  rw [← HL.out]
  rintro e w2 ⟨rfl, hw2⟩
  have B2 := Lib.hid (show Below w.heap.size w w2 by rw [hw2]; exact (Below.refl w.heap.size w).alloc (Nat.le_refl _) _)
  have HCELL := Lib.hid (show ∀ (i : Nat) (l : List UInt8), L[i]? = some l → w2.cell? ⟨w.heap.size, i, none⟩ = some (.string ⟨l.toArray⟩) by
    intro i l hl
    rw [hw2]
    have := heap_alloc_new w (.cells (L.map strV).toArray 9)
    simp only [World.cell?, this]
    simp [hl, strV])
  have hlt2 : w.heap.size < w2.heap.size := by rw [hw2]; simp
  clear hw2
  go_wp2_with fail
  go_loopg [4, 15] (L.length) (fun g y z wr => ∃ (i : Nat) (ops : List Dx.Op), z = .int .i64 i ∧ g = L.length - i ∧ i ≤ L.length ∧ ops.length ≤ i ∧ Hid (wr.ownsRow w2.heap.size 64 3 y ops.length (opsCells ops)) ∧ Hid (Dx.bulkL L = catE ops (Dx.bulkL (L.drop i))) ∧ Hid (Below w2.heap.size w2 wr))
  case atStart => exact ⟨0, [], rfl, rfl, Nat.zero_le _, Nat.le_refl _, Lib.hid (World.ownsRow_nil _ _ _ _), Lib.hid (by simp only [List.drop_zero]; cases Dx.bulkL L <;> rfl), Lib.hid (Below.refl _ _)⟩
  case round =>
    obtain ⟨i, ops, rfl, hq, hi, hol, OWN, BL, hb⟩ := hrel
    have HQ := Lib.hid hq
    clear hq
    rcases Nat.lt_or_ge i L.length with hlt | hge
    · obtain ⟨l, hl⟩ : ∃ l, L[i]? = some l := ⟨L[i], by simp [hlt]⟩
      have hdr : L.drop i = l :: L.drop (i + 1) := by
        rw [List.drop_eq_getElem_cons hlt]; congr 1
        rw [List.getElem?_eq_getElem hlt] at hl; exact Option.some.inj hl
      have b0 : wr.cell? ⟨w.heap.size, i, none⟩ = some (.string ⟨l.toArray⟩) := (hb.out.cell (p := ⟨w.heap.size, i, none⟩) hlt2).trans (HCELL.out i l hl)
      have hll : l.length ≤ 1000000 := by
        have h1 := HS.out
        have h2 := linesN_part _ _ l (by have h3 := HL.out; unfold Dx.lines at h3; rw [← h3]; exact List.mem_of_getElem? hl)
        omega
      have bl := BL.out
      rw [hdr] at bl
      have BL2 := Lib.hid bl; have HLI := Lib.hid hl; have HLL := Lib.hid hll
      clear hdr bl hl BL hll
      obtain ⟨ao, no, co, rfl⟩ := own_shape OWN.out
      by_cases hsk : l = [] ∨ l = [13]
      · have bl := BL2.out
        rw [bulkL_skip hsk] at bl
        have BL3 := Lib.hid bl
        clear bl
        rcases hsk with rfl | rfl
        · go_wp2_with fail
          go_roundg (L.length - (i + 1))
          case measure => have := HQ.out; omega
          case rel => exact ⟨i + 1, ops, by go_num, rfl, by omega, by omega, OWN, BL3, hb⟩
        · go_wp2_with fail
          go_roundg (L.length - (i + 1))
          case measure => have := HQ.out; omega
          case rel => exact ⟨i + 1, ops, by go_num, rfl, by omega, by omega, OWN, BL3, hb⟩
      · have hn1 : (l == []) = false := beq_eq_false_iff_ne.2 fun h => hsk (.inl h)
        have hn2 : (l == [13]) = false := beq_eq_false_iff_ne.2 fun h => hsk (.inr h)
        have HSK := Lib.hid hsk
        clear hsk
        go_wp2_with fail
        refine (parse_callsL l wr ((HG.out.below B2.out).below hb.out).1 (by have := hb.out.size; omega)).mono ?_
        rintro e w4 ⟨cs, rfl, hj, hb4⟩
        have hz4 := hb4.size
        have hz2 := hb.out.size
        cases hp : Cx.parse l with
        | error er =>
          have hne := Cx.parse_errne hp
          have bl := BL2.out
          rw [bulkL_form HSK.out hp] at bl
          have BE := Lib.hid (bulk_of_error (s := s) (by rw [← HL.out]; exact bl))
          rw [parseT_error hp] at hj ⊢
          obtain ⟨b, nb, b', kb, rfl⟩ := hj.shape
          have hei : ((er.1 : Int) != 0) = true := by rw [bne_iff_ne]; omega
          have HB5 := Lib.hid (show Below w.heap.size w (w4.alloc (.cells #[.int .i64 0, .bool false, .string ⟨#[]⟩, .slice b 0 nb, .slice b' 0 kb] 48)) from by
            have h3 := B2.out.trans ((hb.out.trans (hb4.mono (by omega))).mono (by omega))
            exact h3.alloc h3.size _)
          clear hj hb4 hp hne bl
          simp only
          go_wp2_with fail
          go_ret2
          exact ⟨.slice none 0 0, by rw [BE.out.1]; rfl, by rw [BE.out.2]; exact .inl ⟨rfl, rfl, none, 0, rfl⟩, HB5.out⟩
        | ok v =>
          have HP := Lib.hid hp
          have F := Lib.hid (to_maxLen (parse_fits hp)); have HRT := Lib.hid (Dx.Rt.parse hp)
          rw [parseT_ok hp] at hj ⊢
          simp only at hj ⊢
          clear hp
          obtain ⟨V, hV⟩ : ∃ V, V = v := ⟨_, rfl⟩
          cases v with
          | mk k is t ns ks =>
          obtain ⟨a, nc, a', kc, rfl⟩ := hj.shape
          rw [← hV] at hj HP F HRT
          clear hV
          obtain ⟨W5, hW5⟩ : ∃ W5, W5 = w4.alloc (.cells #[.int .i64 k, .bool is, .string ⟨t.toArray⟩, .slice a ns.length nc, .slice a' ks.length kc] 48) := ⟨_, rfl⟩
          have b45 : Below w4.heap.size w4 W5 := by rw [hW5]; exact (Below.refl _ _).alloc (Nat.le_refl _) _
          have HB5 := Lib.hid (hb4.trans (b45.mono (by omega)))
          have J5 := Lib.hid ((hj.all.below b45).all)
          have BX5 := Lib.hid (show W5.heap[w4.heap.size]? = some (.cells #[.int .i64 k, .bool is, .string ⟨t.toArray⟩, .slice a ns.length nc, .slice a' ks.length kc] 48 (0, 0)) by rw [hW5]; exact heap_alloc_new w4 _)
          have hz5 := b45.size
          have HW5 := Lib.hid hW5
          clear hj hb4 hW5 b45 b0
          go_upto_region 9 with fail
          rw [← HW5.out]
          obtain ⟨q0, q1, q2, q3, q4, _⟩ := cells5 BX5.out
          go_wp2_with fail
          refine (op_calls V [.int .i64 k, .bool is, .string ⟨t.toArray⟩, .slice a ns.length nc, .slice a' ks.length kc] W5 _ J5.out F.out HRT.out).mono ?_
          rintro e w6 ⟨o, rfl, hop, hb6⟩
          have hz6 := hb6.size
          obtain ⟨ob, hob⟩ : ∃ ob, ob = (Dx.op V).isSome := ⟨_, rfl⟩
          rw [← hob]
          have HOP := Lib.hid hop; have HOB := Lib.hid hob
          have HB6 := Lib.hid (HB5.out.trans (hb6.mono (by omega)))
          clear q0 q1 q2 q3 q4 hb6 hop hob
          cases ob with
          | false =>
            have bl := BL2.out
            rw [bulkL_none HSK.out HP.out (isSome_false HOB.out)] at bl
            have BE := Lib.hid (bulk_of_error (s := s) (by rw [← HL.out]; exact bl))
            have HB7 := Lib.hid (show Below w.heap.size w (w6.alloc (.cells #[.bool o.del, .string ⟨o.id.toArray⟩, .string ⟨o.text.toArray⟩] 64)) from by
              have h3 := B2.out.trans ((hb.out.trans (HB6.out.mono (by omega))).mono (by omega))
              exact h3.alloc h3.size _)
            clear bl
            go_wp2_with fail
            go_ret2
            exact ⟨.slice none 0 0, by rw [BE.out.1]; rfl, by rw [BE.out.2]; exact .inl ⟨rfl, rfl, none, 0, rfl⟩, HB7.out⟩
          | true =>
            obtain ⟨oo, hoo⟩ : ∃ oo, Dx.op V = some oo := Option.isSome_iff_exists.1 HOB.out.symm
            have HOO := Lib.hid (show Dx.op V = some o by rw [HOP.out oo hoo]; exact hoo)
            have bl := BL2.out
            rw [bulkL_some HSK.out HP.out HOO.out ops] at bl
            have BL3 := Lib.hid bl
            obtain ⟨i0, hi0, hz0, hz1, hz7⟩ := info_parts infoOp
            obtain ⟨W7, hW7⟩ : ∃ W7, W7 = w6.alloc (.cells #[.bool o.del, .string ⟨o.id.toArray⟩, .string ⟨o.text.toArray⟩] 64) := ⟨_, rfl⟩
            have b67 : Below w6.heap.size w6 W7 := by rw [hW7]; exact (Below.refl _ _).alloc (Nat.le_refl _) _
            have HB7 := Lib.hid (HB6.out.trans (b67.mono (by omega)))
            have BO7 := Lib.hid (show W7.heap[w6.heap.size]? = some (.cells #[.bool o.del, .string ⟨o.id.toArray⟩, .string ⟨o.text.toArray⟩] 64 (0, 0)) by rw [hW7]; exact heap_alloc_new w6 _)
            have OWN7 := Lib.hid (ownsRow_below OWN.out HB7.out)
            have hz8 := b67.size
            have HW7 := Lib.hid hW7
            clear bl hoo hW7 b67
            go_upto_region 12 with fail
            rw [← HW7.out]
            obtain ⟨q0, q1, q2, _⟩ := cells3 BO7.out
            have OWN8 := Lib.hid (OWN7.out.alloc (.cells #[.bool o.del, .string ⟨o.id.toArray⟩, .string ⟨o.text.toArray⟩] 64))
            have JO := Lib.hid (show ∀ u ∈ [Value.bool o.del, .string ⟨o.id.toArray⟩, .string ⟨o.text.toArray⟩], u.oneCell' = true from by
              intro u hu; simp only [List.mem_cons, List.not_mem_nil, or_false] at hu; rcases hu with rfl | rfl | rfl <;> rfl)
            have NEWS := Lib.hid (World.news_of_block (cs := #[.bool o.del, .string ⟨o.id.toArray⟩, .string ⟨o.text.toArray⟩]) (t := 64) (fr := (0, 0)) (heap_alloc_new W7 (.cells #[.bool o.del, .string ⟨o.id.toArray⟩, .string ⟨o.text.toArray⟩] 64)))
            have hz9 := HB7.out.size
            have SZ := Lib.hid (show w2.heap.size ≤ (W7.alloc (.cells #[.bool o.del, .string ⟨o.id.toArray⟩, .string ⟨o.text.toArray⟩] 64)).heap.size by simp; omega)
            go_wp2_with (at_builtin; refine wpList_append_lies _ rfl _ _ 31 rfl (w2.heap.size) 64 i0 _ 3 40 Tryz.underlying31 hi0 hz0 hz1 hz7 rfl (by decide) (.slice ao no co) ops.length (opsCells ops) rfl OWN8.out ⟨W7.heap.size, 0, none⟩ 1 1 [.bool o.del, .string ⟨o.id.toArray⟩, .string ⟨o.text.toArray⟩] rfl rfl NEWS.out JO.out (by decide) (by unfold maxLen; omega) (by omega) SZ.out (W7.heap.size + 1) (by simp) ?_; intro gg cap w9 hown9 hgrow9 hat9 hlt9)
            have OWN9 := Lib.hid (show w9.ownsRow w2.heap.size 64 3 (.slice (some ⟨gg, 0, none⟩) (ops.length + 1) cap) (ops ++ [o]).length (opsCells (ops ++ [o])) from by
              rw [opsCells_snoc, List.length_append]
              exact hown9)
            have HB9 := Lib.hid (show Below w2.heap.size w2 w9 from by
              have h1 : Below w2.heap.size w2 (W7.alloc (.cells #[.bool o.del, .string ⟨o.id.toArray⟩, .string ⟨o.text.toArray⟩] 64)) := (hb.out.trans (HB7.out.mono (by omega))).alloc (by omega) _
              exact h1.grown hgrow9 h1.size (fun g hg => (OWN.out.lt g hg).1))
            clear hown9 hgrow9 hat9 hlt9 q0 q1 q2 OWN8 JO NEWS SZ hi0 hz0 hz1 hz7 hz8 hz9
            go_wp2_with fail
            go_roundg (L.length - (i + 1))
            case measure => have := HQ.out; omega
            case rel => exact ⟨i + 1, ops ++ [o], by go_num, rfl, by omega, by rw [List.length_append]; simp; omega, OWN9, BL3, HB9⟩
    · have hik : i = L.length := by omega
      subst hik
      have bl := BL.out
      rw [List.drop_length] at bl
      have BE := Lib.hid (bulk_of_ok (s := s) (l := ops) (by rw [← HL.out, bl]; simp [catE, Dx.bulkL]))
      have HB3 := Lib.hid (B2.out.trans (hb.out.mono (by omega)))
      clear bl BL
      go_wp2_with fail
      go_ret2
      exact ⟨_, by rw [BE.out.1]; rfl, by rw [BE.out.2]; exact Row.of_own OWN.out (fun g hg => by have := (OWN.out.lt g hg).1; omega), HB3.out⟩
end Go.Proofs.YtejlddimokmgjaaGreatDoor
