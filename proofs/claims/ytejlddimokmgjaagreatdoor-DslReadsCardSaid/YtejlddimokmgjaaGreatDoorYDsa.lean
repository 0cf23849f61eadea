/- WALKS: codexref17's count; the law's helper short. -/
import Derived.Test.YtejlddimokmgjaaGreatDoorKk
namespace Go.Proofs.YtejlddimokmgjaaGreatDoor
open Go.RowKit

/-- A slice of three lists, in a block. -/
def L3 (g : Nat) (sa sb sc : Value) (w : World) : Prop := w.heap[g]? = some (.cells #[sa, sb, sc] 24 (0, 0))
theorem L3.below {g : Nat} {sa sb sc : Value} {w w' : World} (h : L3 g sa sb sc w) (k : Below w.heap.size w w') : L3 g sa sb sc w' := (k.block g (heap_lt h)).trans h
theorem L3.cell {g : Nat} {sa sb sc : Value} {w : World} (h : L3 g sa sb sc w) {j : Nat} (hj : j < 3) : w.cell? ⟨g, j, none⟩ = some (if j = 0 then sa else if j = 1 then sb else sc) := by
  unfold L3 at h
  have : j = 0 ∨ j = 1 ∨ j = 2 := by omega
  rcases this with rfl | rfl | rfl <;> simp [World.cell?, h]
/-- The list that is chosen. -/
theorem lsel_row {w : World} {ok : Nat → Prop} {a b c : List Dx.Qy} {aa ab ac : Option Addr} {ca cb cc : Nat} (ra : QRow w ok (.slice aa a.length ca) a) (rb : QRow w ok (.slice ab b.length cb) b) (rc : QRow w ok (.slice ac c.length cc) c) {j : Nat} (hj : j < 3) :
    ∃ (L : List Dx.Qy) (al : Option Addr) (cl : Nat), L = lsel a b c j ∧ (if j = 0 then Value.slice aa a.length ca else if j = 1 then .slice ab b.length cb else .slice ac c.length cc) = .slice al L.length cl ∧ QRow w ok (.slice al L.length cl) L := by
  have : j = 0 ∨ j = 1 ∨ j = 2 := by omega
  rcases this with rfl | rfl | rfl
  · exact ⟨a, aa, ca, rfl, rfl, ra⟩
  · exact ⟨b, ab, cb, rfl, rfl, rb⟩
  · exact ⟨c, ac, cc, rfl, rfl, rc⟩
theorem countK_ge : ∀ (l : List Dx.Qy) (i : Nat), i ≤ l.length → i ≤ Dx.countK (l.take i)
  | l, i, h => by have := countK_len (l.take i); rw [List.length_take] at this; omega

set_option maxRecDepth 100000 in
set_option maxHeartbeats 4000000 in
theorem rcount_calls : ∀ (N : Nat) (q : Dx.Qy) (cs : List Value) (most : Nat) (w : World) (ok : Nat → Prop), Dx.count q ≤ N → QyAt w ok q cs → most ≤ 100000 →
    Calls Tryz.prog 63 #[.agg cs.toArray, .int .i64 most] w fun e w' => e = .returned (.int .i64 (min (Dx.count q) (most + 1) : Nat)) ∧ Below w.heap.size w w' := by
  intro N
  induction N with
  | zero => intro q _ _ _ _ h; have := count_pos q; omega
  | succ N ih =>
    intro q cs most w ok hN hj hm
    obtain ⟨k, t, a, b, c⟩ := q
    obtain ⟨sa, sb, sc, rfl, ra, rb, rc⟩ := hj.all.rows
    obtain ⟨aa, ca, rfl⟩ := ra.shape
    obtain ⟨ab, cb, rfl⟩ := rb.shape
    obtain ⟨ac, cc, rfl⟩ := rc.shape
    have IH := Lib.hid ih; have RA := Lib.hid ra; have RB := Lib.hid rb; have RC := Lib.hid rc; have HN := Lib.hid hN
    obtain ⟨W, hW⟩ : ∃ W, W = (w.alloc (.cells #[.int .i64 k, .string ⟨t.toArray⟩, .slice aa a.length ca, .slice ab b.length cb, .slice ac c.length cc] 26)).alloc (.cells #[.slice aa a.length ca, .slice ab b.length cb, .slice ac c.length cc] 24) := ⟨_, rfl⟩
    have HB0 := Lib.hid (show Below w.heap.size w W by rw [hW]; exact ((Below.refl w.heap.size w).alloc (Nat.le_refl _) _).alloc (by simp) _)
    have L0 := Lib.hid (show L3 (w.heap.size + 1) (.slice aa a.length ca) (.slice ab b.length cb) (.slice ac c.length cc) W by
      rw [hW]
      have := heap_alloc_new (w.alloc (.cells #[.int .i64 k, .string ⟨t.toArray⟩, .slice aa a.length ca, .slice ab b.length cb, .slice ac c.length cc] 26)) (.cells #[.slice aa a.length ca, .slice ab b.length cb, .slice ac c.length cc] 24)
      simpa [L3] using this)
    have HW := Lib.hid hW
    clear ih ra rb rc hN hj hW
    go_enter Tryz.func63, Tryz.ntmps63
    go_wp2_with fail
    rw [← HW.out]
    clear HW
    go_loopg [5, 7] (3) (fun g y z wr => ∃ (j n : Nat), y = .int .i64 n ∧ z = .int .i64 j ∧ g = 3 - j ∧ j ≤ 3 ∧ n ≤ most + 1 ∧ Hid (n = min (1 + preQ a b c j) (most + 1)) ∧ Hid (Below w.heap.size w wr) ∧ Hid (L3 (w.heap.size + 1) (.slice aa a.length ca) (.slice ab b.length cb) (.slice ac c.length cc) wr))
    case atStart => exact ⟨0, 1, rfl, rfl, rfl, by omega, by omega, Lib.hid (by simp [preQ]), HB0, L0⟩
    case round =>
      clear HB0 L0
      obtain ⟨j, n, rfl, rfl, hg, hj3, hn, HNN, hb, LB⟩ := hrel
      have HG := Lib.hid hg
      clear hg
      rcases Nat.lt_or_ge j 3 with hlt | hge
      · have hltb : decide ((j : Int) < 3) = true := by simp; omega
        have hltI : (j : Int) < 3 := by omega
        obtain ⟨L, al, cl, hL, hsel, hrow⟩ := lsel_row RA.out RB.out RC.out hlt
        have HL := Lib.hid hL; have RL := Lib.hid hrow; have HSEL := Lib.hid hsel
        clear hL hsel hrow
        go_wp2_with fail
        go_loopg [5, 8] (L.length) (fun g y z wr => ∃ (i m : Nat), y = .int .i64 m ∧ z = .int .i64 i ∧ g = L.length - i ∧ i ≤ L.length ∧ m ≤ most + 1 ∧ i ≤ most + 1 ∧ Hid (m = min (1 + preQ a b c j + Dx.countK (L.take i)) (most + 1)) ∧ Hid (Below w.heap.size w wr) ∧ Hid (L3 (w.heap.size + 1) (.slice aa a.length ca) (.slice ab b.length cb) (.slice ac c.length cc) wr))
        case atStart => exact ⟨0, n, rfl, rfl, rfl, by omega, hn, by omega, Lib.hid (by rw [HNN.out]; simp [Dx.countK]), hb, LB⟩
        case round =>
          obtain ⟨i, m, rfl, rfl, hq, hi, hm1, hi1, HMM, hbr, LR⟩ := hrel
          have HQ := Lib.hid hq
          have bl := LR.out.cell hlt
          rw [HSEL.out] at bl
          have hge3 := countK_ge L i hi
          clear hq
          rcases Nat.lt_or_ge i L.length with hil | hig
          · by_cases hnm : m ≤ most
            · obtain ⟨x, hx⟩ : ∃ x, L[i]? = some x := ⟨L[i], by simp [hil]⟩
              obtain ⟨g, o, hv, _, hgl, xk, xt, xn1, xn2, xn3, xa1, xa2, xa3, xc1, xc2, xc3, hkj, d0, d1, d2, d3, d4⟩ := RL.out.kid' hx
              subst hv
              have b0 := (hbr.out.cell (p := ⟨g, o + i * 5, none⟩) hgl).trans d0
              have b1 := (hbr.out.cell (p := ⟨g, o + i * 5 + 1, none⟩) hgl).trans d1
              have b2 := (hbr.out.cell (p := ⟨g, o + i * 5 + 2, none⟩) hgl).trans d2
              have b3 := (hbr.out.cell (p := ⟨g, o + i * 5 + 3, none⟩) hgl).trans d3
              have b4 := (hbr.out.cell (p := ⟨g, o + i * 5 + 4, none⟩) hgl).trans d4
              have KJ := Lib.hid hkj; have HX := Lib.hid hx
              have h2 := countK_take hx; have h3 := preQ_le a b c j hlt k t; have h4 := HN.out
              rw [← HL.out] at h3
              have hc := IH.out x [.int .i64 xk, .string ⟨xt.toArray⟩, .slice xa1 xn1 xc1, .slice xa2 xn2 xc2, .slice xa3 xn3 xc3] (most - m) wr (fun g => g < w.heap.size) (by omega) (hkj.below hbr.out) (by omega)
              rw [show (((most - m : Nat) : Nat) : Int) = (most : Int) - (m : Int) by omega] at hc
              have HC := Lib.hid hc
              have hi2 : i + 1 ≤ most + 1 := by have := HMM.out; omega
              have hnmI : (m : Int) ≤ (most : Int) := by omega
              have hilI : (i : Int) < (L.length : Int) := by omega
              clear hkj d0 d1 d2 d3 d4 hx h2 h3 h4 hc hge3
              go_wp2_with fail
              refine HC.out.mono ?_
              rintro e w5 ⟨rfl, hb5⟩
              have HB5 := Lib.hid (hbr.out.trans (hb5.mono hbr.out.size))
              have LB5 := Lib.hid (LR.out.below hb5)
              obtain ⟨r, hr⟩ : ∃ r, r = min (Dx.count x) (most - m + 1) := ⟨_, rfl⟩
              rw [← hr]
              have hrl : r ≤ most - m + 1 := by omega
              have HR := Lib.hid hr
              clear hb5 hr b0 b1 b2 b3 b4 HC bl
              go_wp2
              go_roundg (L.length - (i + 1))
              case measure => have := HQ.out; omega
              case rel =>
                refine ⟨i + 1, m + r, by go_num, by go_num, rfl, by omega, by omega, hi2, Lib.hid ?_, HB5, LB5⟩
                have := HR.out; have := HMM.out; have h2 := (countK_take HX.out).1
                rw [h2]; omega
            · have hnmI : ¬ (m : Int) ≤ (most : Int) := by omega
              have hilI : (i : Int) < (L.length : Int) := by omega
              have hmm := HMM.out
              have htk : Dx.countK (L.take i) ≤ Dx.countK L := by
                obtain ⟨x, hx⟩ : ∃ x, L[i]? = some x := ⟨L[i], by simp [hil]⟩
                have := (countK_take hx).2; omega
              have hfin : m = min (1 + preQ a b c (j + 1)) (most + 1) := by rw [preQ_next a b c j hlt, ← HL.out]; omega
              have HFIN := Lib.hid hfin
              clear hfin hmm htk hge3
              go_wp2
              go_roundg (3 - (j + 1))
              case measure => have := HG.out; omega
              case rel => exact ⟨j + 1, m, rfl, by go_num, rfl, by omega, hm1, HFIN, hbr, LR⟩
          · have hik : i = L.length := by omega
            subst hik
            have hilI : ¬ (L.length : Int) < (L.length : Int) := by omega
            have hfin : m = min (1 + preQ a b c (j + 1)) (most + 1) := by
              have h1 := HMM.out
              rw [List.take_length] at h1
              rw [preQ_next a b c j hlt, ← HL.out, h1]
              omega
            have HFIN := Lib.hid hfin
            clear hfin hge3
            go_wp2
            go_roundg (3 - (j + 1))
            case measure => have := HG.out; omega
            case rel => exact ⟨j + 1, m, rfl, by go_num, rfl, by omega, hm1, HFIN, hbr, LR⟩
      · have hj' : j = 3 := by omega
        subst hj'
        have hfin : min (Dx.count (.mk k t a b c)) (most + 1) = n := by rw [preQ_all, HNN.out]
        have HF := Lib.hid hfin
        clear hfin
        have hmin : min (n : Int) ((most : Int) + 1) = n := by omega
        go_wp2
        go_ret
        exact ⟨by rw [HF.out]; rfl, hb.out⟩
end Go.Proofs.YtejlddimokmgjaaGreatDoor
