/- WALKS: the law's helper short. -/
import Derived.Test.YtejlddimokmgjaaGreatDoorZDsa
import Derived.Test.YtejlddimokmgjaaGreatDoorZDdo
namespace Go.Proofs.YtejlddimokmgjaaGreatDoor
open Go.RowKit

mutual
/-- Has a query short texts and lists? -/
def short : Dx.Qy → Bool
  | .mk _ t a b c => decide (t.length ≤ 1000) && ((decide (a.length ≤ 300) && shortK a) && ((decide (b.length ≤ 300) && shortK b) && (decide (c.length ≤ 300) && shortK c)))
def shortK : List Dx.Qy → Bool
  | [] => true
  | q :: l => short q && shortK l
end
def selOk (l : List Dx.Qy) : Bool := decide (l.length ≤ 300) && shortK l
def preS (a b c : List Dx.Qy) (j : Nat) : Bool := (if 0 < j then selOk a else true) && ((if 1 < j then selOk b else true) && (if 2 < j then selOk c else true))
theorem preS_next (a b c : List Dx.Qy) (j : Nat) (h : j < 3) : preS a b c (j + 1) = (preS a b c j && selOk (lsel a b c j)) := by
  have : j = 0 ∨ j = 1 ∨ j = 2 := by omega
  rcases this with rfl | rfl | rfl <;> simp [preS, lsel, Bool.and_assoc]
theorem short_eq (k : Int) (t : List UInt8) (a b c : List Dx.Qy) : short (.mk k t a b c) = (decide (t.length ≤ 1000) && preS a b c 3) := by
  simp [short, preS, selOk]
theorem short_bad (k : Int) (t : List UInt8) (a b c : List Dx.Qy) (j : Nat) (h : j < 3) (hb : selOk (lsel a b c j) = false) : short (.mk k t a b c) = false := by
  rw [short_eq]
  have : j = 0 ∨ j = 1 ∨ j = 2 := by omega
  rcases this with rfl | rfl | rfl <;> (simp only [lsel] at hb; simp at hb; simp [preS, hb])
theorem shortK_take {q : Dx.Qy} : ∀ {l : List Dx.Qy} {i : Nat}, l[i]? = some q → shortK (l.take (i + 1)) = (shortK (l.take i) && short q)
  | [], _, h => by simp at h
  | a :: l, 0, h => by
    simp only [List.getElem?_cons_zero, Option.some.injEq] at h
    subst h
    simp [shortK]
  | a :: l, i + 1, h => by
    simp only [List.getElem?_cons_succ] at h
    simp only [List.take_succ_cons, shortK, shortK_take h, Bool.and_assoc]
theorem shortK_bad {q : Dx.Qy} : ∀ {l : List Dx.Qy} {i : Nat}, l[i]? = some q → short q = false → shortK l = false
  | [], _, h, _ => by simp at h
  | a :: l, 0, h, hs => by
    simp only [List.getElem?_cons_zero, Option.some.injEq] at h
    subst h
    simp [shortK, hs]
  | a :: l, i + 1, h, hs => by
    simp only [List.getElem?_cons_succ] at h
    simp [shortK, shortK_bad h hs]

set_option maxRecDepth 100000 in
set_option maxHeartbeats 4000000 in
theorem short_calls : ∀ (N : Nat) (q : Dx.Qy) (cs : List Value) (w : World) (ok : Nat → Prop), Dx.count q ≤ N → QyAt w ok q cs →
    Calls Tryz.prog 61 #[.agg cs.toArray] w fun e w' => e = .returned (.bool (short q)) ∧ Below w.heap.size w w' := by
  intro N
  induction N with
  | zero => intro q _ _ _ h; have := count_pos q; omega
  | succ N ih =>
    intro q cs w ok hN hj
    obtain ⟨k, t, a, b, c⟩ := q
    obtain ⟨sa, sb, sc, rfl, ra, rb, rc⟩ := hj.all.rows
    obtain ⟨aa, ca, rfl⟩ := ra.shape
    obtain ⟨ab, cb, rfl⟩ := rb.shape
    obtain ⟨ac, cc, rfl⟩ := rc.shape
    have IH := Lib.hid ih; have RA := Lib.hid ra; have RB := Lib.hid rb; have RC := Lib.hid rc; have HN := Lib.hid hN
    have hts := size_arr t
    obtain ⟨R, hR⟩ : ∃ R, R = short (.mk k t a b c) := ⟨_, rfl⟩
    rw [← hR]
    have HR := Lib.hid hR
    clear ih ra rb rc hN hj hR
    by_cases htl : (1000 : Int) < t.length
    · have hb : R = false := by rw [HR.out, short_eq, decide_eq_false (by omega), Bool.false_and]
      have HB := Lib.hid hb
      have HB0 := Lib.hid ((Below.refl w.heap.size w).alloc (Nat.le_refl _) (.cells #[.int .i64 k, .string ⟨t.toArray⟩, .slice aa a.length ca, .slice ab b.length cb, .slice ac c.length cc] 26))
      clear hb
      go_enter Tryz.func61, Tryz.ntmps61
      go_wp2_with fail
      go_ret
      exact ⟨by rw [HB.out]; rfl, HB0.out⟩
    obtain ⟨W, hW⟩ : ∃ W, W = (w.alloc (.cells #[.int .i64 k, .string ⟨t.toArray⟩, .slice aa a.length ca, .slice ab b.length cb, .slice ac c.length cc] 26)).alloc (.cells #[.slice aa a.length ca, .slice ab b.length cb, .slice ac c.length cc] 24) := ⟨_, rfl⟩
    have HB0 := Lib.hid (show Below w.heap.size w W by rw [hW]; exact ((Below.refl w.heap.size w).alloc (Nat.le_refl _) _).alloc (by simp) _)
    have L0 := Lib.hid (show L3 (w.heap.size + 1) (.slice aa a.length ca) (.slice ab b.length cb) (.slice ac c.length cc) W by
      rw [hW]
      have := heap_alloc_new (w.alloc (.cells #[.int .i64 k, .string ⟨t.toArray⟩, .slice aa a.length ca, .slice ab b.length cb, .slice ac c.length cc] 26)) (.cells #[.slice aa a.length ca, .slice ab b.length cb, .slice ac c.length cc] 24)
      simpa [L3] using this)
    have HW := Lib.hid hW
    clear hW
    go_enter Tryz.func61, Tryz.ntmps61
    go_wp2_with fail
    rw [← HW.out]
    clear HW
    go_loopg [4] (3) (fun g z wr => ∃ (j : Nat), z = .int .i64 j ∧ g = 3 - j ∧ j ≤ 3 ∧ Hid (preS a b c j = true) ∧ Hid (Below w.heap.size w wr) ∧ Hid (L3 (w.heap.size + 1) (.slice aa a.length ca) (.slice ab b.length cb) (.slice ac c.length cc) wr))
    case atStart => exact ⟨0, rfl, rfl, by omega, Lib.hid (by simp [preS]), HB0, L0⟩
    case round =>
      clear HB0 L0
      obtain ⟨j, rfl, hg, hj3, HPRE, hb, LB⟩ := hrel
      have HG := Lib.hid hg
      clear hg
      rcases Nat.lt_or_ge j 3 with hlt | hge
      · have hltb : decide ((j : Int) < 3) = true := by simp; omega
        have hltI : (j : Int) < 3 := by omega
        obtain ⟨L, al, cl, hL, hsel, hrow⟩ := lsel_row RA.out RB.out RC.out hlt
        have bl := LB.out.cell hlt
        rw [hsel] at bl
        have HL := Lib.hid hL; have RL := Lib.hid hrow; have HSEL := Lib.hid hsel
        clear hL hsel hrow
        by_cases hll : (300 : Int) < L.length
        · have hbad : R = false := by rw [HR.out]; exact short_bad k t a b c j hlt (by rw [← HL.out]; unfold selOk; rw [decide_eq_false (by omega), Bool.false_and])
          have HB := Lib.hid hbad
          clear hbad
          go_wp2_with fail
          go_ret
          exact ⟨by rw [HB.out]; rfl, hb.out⟩
        go_wp2_with fail
        clear bl
        go_loopg [5] (L.length) (fun g z wr => ∃ (i : Nat), z = .int .i64 i ∧ g = L.length - i ∧ i ≤ L.length ∧ Hid (shortK (L.take i) = true) ∧ Hid (Below w.heap.size w wr) ∧ Hid (L3 (w.heap.size + 1) (.slice aa a.length ca) (.slice ab b.length cb) (.slice ac c.length cc) wr))
        case atStart => exact ⟨0, rfl, rfl, by omega, Lib.hid (by simp [shortK]), hb, LB⟩
        case round =>
          obtain ⟨i, rfl, hq, hi, HSK, hbr, LR⟩ := hrel
          have HQ := Lib.hid hq
          have bl := LR.out.cell hlt
          rw [HSEL.out] at bl
          clear hq
          rcases Nat.lt_or_ge i L.length with hil | hig
          · obtain ⟨x, hx⟩ : ∃ x, L[i]? = some x := ⟨L[i], by simp [hil]⟩
            obtain ⟨g, o, hv, _, hgl, xk, xt, xn1, xn2, xn3, xa1, xa2, xa3, xc1, xc2, xc3, hkj, d0, d1, d2, d3, d4⟩ := RL.out.kid' hx
            subst hv
            have b0 := (hbr.out.cell (p := ⟨g, o + i * 5, none⟩) hgl).trans d0
            have b1 := (hbr.out.cell (p := ⟨g, o + i * 5 + 1, none⟩) hgl).trans d1
            have b2 := (hbr.out.cell (p := ⟨g, o + i * 5 + 2, none⟩) hgl).trans d2
            have b3 := (hbr.out.cell (p := ⟨g, o + i * 5 + 3, none⟩) hgl).trans d3
            have b4 := (hbr.out.cell (p := ⟨g, o + i * 5 + 4, none⟩) hgl).trans d4
            have HX := Lib.hid hx
            have h2 := countK_take hx; have h3 := preQ_le a b c j hlt k t; have h4 := HN.out
            rw [← HL.out] at h3
            have HC := Lib.hid (IH.out x [.int .i64 xk, .string ⟨xt.toArray⟩, .slice xa1 xn1 xc1, .slice xa2 xn2 xc2, .slice xa3 xn3 xc3] wr (fun g => g < w.heap.size) (by omega) (hkj.below hbr.out))
            have hilI : (i : Int) < (L.length : Int) := by omega
            clear hkj d0 d1 d2 d3 d4 hx h2 h3 h4
            go_wp2_with fail
            refine HC.out.mono ?_
            rintro e w5 ⟨rfl, hb5⟩
            have HB5 := Lib.hid (hbr.out.trans (hb5.mono hbr.out.size))
            have LB5 := Lib.hid (LR.out.below hb5)
            obtain ⟨r, hr⟩ : ∃ r, r = short x := ⟨_, rfl⟩
            rw [← hr]
            have HRX := Lib.hid hr
            clear hb5 hr b0 b1 b2 b3 b4 HC bl
            cases r with
            | true =>
              have HN2 := Lib.hid (show shortK (L.take (i + 1)) = true by rw [shortK_take HX.out, HSK.out, ← HRX.out]; rfl)
              go_wp2
              go_roundg (L.length - (i + 1))
              case measure => have := HQ.out; omega
              case rel => exact ⟨i + 1, by go_num, rfl, by omega, HN2, HB5, LB5⟩
            | false =>
              have hbad : R = false := by rw [HR.out]; exact short_bad k t a b c j hlt (by rw [← HL.out]; unfold selOk; rw [shortK_bad HX.out HRX.out.symm, Bool.and_false])
              have HB := Lib.hid hbad
              clear hbad
              go_wp2
              go_ret
              exact ⟨by rw [HB.out]; rfl, HB5.out⟩
          · have hik : i = L.length := by omega
            subst hik
            have hilI : ¬ (L.length : Int) < (L.length : Int) := by omega
            have HPN := Lib.hid (show preS a b c (j + 1) = true by
              have h1 := HSK.out
              rw [List.take_length] at h1
              rw [preS_next a b c j hlt, HPRE.out, ← HL.out]
              unfold selOk
              rw [h1, decide_eq_true (by omega)]; rfl)
            go_wp2
            go_roundg (3 - (j + 1))
            case measure => have := HG.out; omega
            case rel => exact ⟨j + 1, by go_num, rfl, by omega, HPN, hbr, LR⟩
      · have hj' : j = 3 := by omega
        subst hj'
        have hfin : R = true := by rw [HR.out, short_eq, HPRE.out, decide_eq_true (by omega)]; rfl
        have HF := Lib.hid hfin
        clear hfin
        go_wp2
        go_ret
        exact ⟨by rw [HF.out]; rfl, hb.out⟩
end Go.Proofs.YtejlddimokmgjaaGreatDoor
