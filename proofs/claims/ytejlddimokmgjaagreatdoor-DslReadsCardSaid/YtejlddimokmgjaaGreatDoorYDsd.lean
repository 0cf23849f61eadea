/- WALKS: codexref17's node, deep, nodes, Size, Right; the law's helper light. -/
import Derived.Test.YtejlddimokmgjaaGreatDoorYDsc
import Derived.Test.YtejlddimokmgjaaGreatDoorKk
import Derived.Test.YtejlddimokmgjaaGreatDoorYDvl
namespace Go.Proofs.YtejlddimokmgjaaGreatDoor
open Go.RowKit

theorem valid10L (t : List UInt8) (w : World) (ht : t.length ≤ maxLen) :
    Calls Tryz.prog 29 #[.string ⟨t.toArray⟩] w fun e w' => e = .returned (.bool (Cx.valid t)) ∧ Below w.heap.size w w' := by
  have h := valid10_calls ⟨t.toArray⟩ w (by rw [size_arr]; exact ht)
  rw [show (⟨t.toArray⟩ : ByteArray).data.toList = t by simp] at h
  exact h

set_option maxRecDepth 100000 in
set_option maxHeartbeats 4000000 in
theorem rnode_calls (k : Int) (t : List UInt8) (na nb nc : Nat) (aa ab ac : Option Addr) (ca cb cc : Nat) (w : World) (hs : na + nb + nc ≤ 1000000) (ht : t.length ≤ maxLen) :
    Calls Tryz.prog 105 #[.agg #[.int .i64 k, .string ⟨t.toArray⟩, .slice aa na ca, .slice ab nb cb, .slice ac nc cc]] w fun e w' => e = .returned (.bool (Dx.nodeOk k t (na + nb + nc))) ∧ Below w.heap.size w w' := by
  obtain ⟨R, hR⟩ : ∃ R, R = Dx.nodeOk k t (na + nb + nc) := ⟨_, rfl⟩
  rw [← hR]
  unfold Dx.nodeOk at hR
  have hts := size_arr t
  have HR := Lib.hid hR; have HT := Lib.hid ht
  obtain ⟨W, hW⟩ : ∃ W, W = w.alloc (.cells #[.int .i64 k, .string ⟨t.toArray⟩, .slice aa na ca, .slice ab nb cb, .slice ac nc cc] 26) := ⟨_, rfl⟩
  have HB0 := Lib.hid (show Below w.heap.size w W by rw [hW]; exact (Below.refl _ _).alloc (Nat.le_refl _) _)
  have BQ := Lib.hid (show W.heap[w.heap.size]? = some (.cells #[.int .i64 k, .string ⟨t.toArray⟩, .slice aa na ca, .slice ab nb cb, .slice ac nc cc] 26 (0, 0)) by rw [hW]; exact heap_alloc_new w _)
  have HW := Lib.hid hW
  clear hR ht hW
  have hz : ((na : Int) + nb + nc == 0) = decide (na + nb + nc = 0) := by
    rw [Bool.eq_iff_iff, beq_iff_eq, decide_eq_true_iff]; omega
  by_cases h234 : k = 2 ∨ k = 3 ∨ k = 4
  · have hr := HR.out
    rw [if_pos h234] at hr
    obtain ⟨V, hV⟩ : ∃ V, V = Cx.valid t := ⟨_, rfl⟩
    rw [← hV] at hr
    have HV := Lib.hid hV; have HR2 := Lib.hid hr
    clear hV hr HR hz
    rcases h234 with rfl | rfl | rfl
    all_goals
      go_enter Tryz.func105, Tryz.ntmps105
      go_upto_region 1 with fail
      rw [← HW.out]
      obtain ⟨q0, q1, q2, q3, q4, _⟩ := cells5 BQ.out
      go_wp2_with fail
      refine (valid10L t W HT.out).mono ?_
      rw [← HV.out]
      rintro e w1 ⟨rfl, hb⟩
      have HB1 := Lib.hid (HB0.out.trans (hb.mono HB0.out.size))
      clear q0 q1 q2 q3 q4
      obtain ⟨q0, q1, q2, q3, q4, _⟩ := cells5 ((hb.block _ (heap_lt BQ.out)).trans BQ.out)
      clear hb
      cases V with
      | false =>
        have HF := Lib.hid (show R = false by rw [HR2.out]; simp)
        go_wp2_with fail
        go_ret
        exact ⟨by rw [HF.out]; rfl, HB1.out⟩
      | true =>
        by_cases hl : (t.length : Int) ≤ 200
        · by_cases hn : na + nb + nc = 0
          · have HF := Lib.hid (show R = true by rw [HR2.out]; simp [hn]; omega)
            obtain ⟨rfl, rfl, rfl⟩ : na = 0 ∧ nb = 0 ∧ nc = 0 := ⟨by omega, by omega, by omega⟩
            clear hn
            go_wp2_with fail
            go_ret
            exact ⟨by rw [HF.out]; rfl, HB1.out⟩
          · have HF := Lib.hid (show R = false by rw [HR2.out, decide_eq_false hn, Bool.false_and, Bool.false_and])
            have hz2 : ((na : Int) + nb + nc == 0) = false := by rw [beq_eq_false_iff_ne]; omega
            clear hn
            go_wp2_with fail
            go_ret
            exact ⟨by rw [HF.out]; rfl, HB1.out⟩
        · have HF := Lib.hid (show R = false by rw [HR2.out]; simp; omega)
          go_wp2_with fail
          go_ret
          exact ⟨by rw [HF.out]; rfl, HB1.out⟩
  have hr := HR.out
  rw [if_neg h234] at hr
  have e2 : (k == 2) = false := by rw [beq_eq_false_iff_ne]; intro h; exact h234 (.inl h)
  have e3 : (k == 3) = false := by rw [beq_eq_false_iff_ne]; intro h; exact h234 (.inr (.inl h))
  have e4 : (k == 4) = false := by rw [beq_eq_false_iff_ne]; intro h; exact h234 (.inr (.inr h))
  clear h234 HR
  by_cases h1 : k = 1
  · subst h1
    rw [if_pos rfl] at hr
    have HR2 := Lib.hid hr
    clear hr e2 e3 e4
    by_cases ht0 : t = []
    · subst ht0
      by_cases hn : na + nb + nc = 0
      · have HF := Lib.hid (show R = true by rw [HR2.out]; simp [hn])
        obtain ⟨rfl, rfl, rfl⟩ : na = 0 ∧ nb = 0 ∧ nc = 0 := ⟨by omega, by omega, by omega⟩
        clear hn hz
        go_enter Tryz.func105, Tryz.ntmps105
        go_upto_region 1 with fail
        rw [← HW.out]
        obtain ⟨q0, q1, q2, q3, q4, _⟩ := cells5 BQ.out
        go_wp2_with fail
        go_ret
        exact ⟨by rw [HF.out]; rfl, HB0.out⟩
      · have HF := Lib.hid (show R = false by rw [HR2.out, decide_eq_false hn, Bool.false_and])
        have hz2 : ((na : Int) + nb + nc == 0) = false := by rw [beq_eq_false_iff_ne]; omega
        clear hn hz
        go_enter Tryz.func105, Tryz.ntmps105
        go_upto_region 1 with fail
        rw [← HW.out]
        obtain ⟨q0, q1, q2, q3, q4, _⟩ := cells5 BQ.out
        go_wp2_with fail
        go_ret
        exact ⟨by rw [HF.out]; rfl, HB0.out⟩
    · have HF := Lib.hid (show R = false by rw [HR2.out]; simp [ht0])
      have htl : (t == []) = false := beq_eq_false_iff_ne.2 ht0
      clear ht0 hz
      go_enter Tryz.func105, Tryz.ntmps105
      go_upto_region 1 with fail
      rw [← HW.out]
      obtain ⟨q0, q1, q2, q3, q4, _⟩ := cells5 BQ.out
      go_wp2_with fail
      go_ret
      exact ⟨by rw [HF.out]; rfl, HB0.out⟩
  rw [if_neg h1] at hr
  have e1 : (k == 1) = false := by rw [beq_eq_false_iff_ne]; exact h1
  clear h1 hz
  by_cases h5 : k = 5
  · subst h5
    rw [if_pos rfl] at hr
    have HR2 := Lib.hid hr
    clear hr e1 e2 e3 e4
    by_cases ht0 : t = []
    · subst ht0
      have HF := Lib.hid (show R = true by rw [HR2.out]; simp)
      go_enter Tryz.func105, Tryz.ntmps105
      go_upto_region 1 with fail
      rw [← HW.out]
      obtain ⟨q0, q1, q2, q3, q4, _⟩ := cells5 BQ.out
      go_wp2_with fail
      go_ret
      exact ⟨by rw [HF.out]; rfl, HB0.out⟩
    · have HF := Lib.hid (show R = false by rw [HR2.out]; simp [ht0])
      have htl : (t == []) = false := beq_eq_false_iff_ne.2 ht0
      clear ht0
      go_enter Tryz.func105, Tryz.ntmps105
      go_upto_region 1 with fail
      rw [← HW.out]
      obtain ⟨q0, q1, q2, q3, q4, _⟩ := cells5 BQ.out
      go_wp2_with fail
      go_ret
      exact ⟨by rw [HF.out]; rfl, HB0.out⟩
  rw [if_neg h5] at hr
  have e5 : (k == 5) = false := by rw [beq_eq_false_iff_ne]; exact h5
  have HF := Lib.hid hr
  clear h5 hr
  go_enter Tryz.func105, Tryz.ntmps105
  go_upto_region 1 with fail
  rw [← HW.out]
  obtain ⟨q0, q1, q2, q3, q4, _⟩ := cells5 BQ.out
  go_wp2_with fail
  go_ret
  exact ⟨by rw [HF.out]; rfl, HB0.out⟩

/-- The kids of a query. -/
def kidsQ (a b c : List Dx.Qy) : List Dx.Qy := a ++ (b ++ c)
theorem countK_app : ∀ (l m : List Dx.Qy), Dx.countK (l ++ m) = Dx.countK l + Dx.countK m
  | [], m => by simp [Dx.countK]
  | q :: l, m => by simp only [List.cons_append, Dx.countK, countK_app l m]; omega
theorem deepK_app : ∀ (l m : List Dx.Qy), Dx.deepK (l ++ m) = max (Dx.deepK l) (Dx.deepK m)
  | [], m => by simp [Dx.deepK]
  | q :: l, m => by simp only [List.cons_append, Dx.deepK, deepK_app l m]; omega
theorem nodesK_app : ∀ (l m : List Dx.Qy), Dx.nodesOkK (l ++ m) = (Dx.nodesOkK l && Dx.nodesOkK m)
  | [], m => by simp [Dx.nodesOkK]
  | q :: l, m => by simp only [List.cons_append, Dx.nodesOkK, nodesK_app l m, Bool.and_assoc]
theorem qfitK_app {M : Nat} : ∀ {l m : List Dx.Qy}, Dx.qfitK M l → Dx.qfitK M m → Dx.qfitK M (l ++ m)
  | [], _, _, h => h
  | q :: l, _, h1, h2 => by
    simp only [List.cons_append, Dx.qfitK] at h1 ⊢
    exact ⟨h1.1, qfitK_app h1.2 h2⟩
theorem nodesK_take {q : Dx.Qy} : ∀ {l : List Dx.Qy} {i : Nat}, l[i]? = some q → Dx.nodesOkK (l.take (i + 1)) = (Dx.nodesOkK (l.take i) && Dx.nodesOk q)
  | [], _, h => by simp at h
  | a :: l, 0, h => by
    simp only [List.getElem?_cons_zero, Option.some.injEq] at h
    subst h
    simp [Dx.nodesOkK]
  | a :: l, i + 1, h => by
    simp only [List.getElem?_cons_succ] at h
    simp only [List.take_succ_cons, Dx.nodesOkK, nodesK_take h, Bool.and_assoc]
set_option maxRecDepth 100000 in
set_option maxHeartbeats 4000000 in
theorem rdeep_calls : ∀ (N : Nat) (q : Dx.Qy) (cs : List Value) (w : World) (ok : Nat → Prop), Dx.count q ≤ N → Dx.count q ≤ 1000000 → QyAt w ok q cs →
    Calls Tryz.prog 64 #[.agg cs.toArray] w fun e w' => e = .returned (.int .i64 (Dx.deep q : Nat)) ∧ Below w.heap.size w w' := by
  intro N
  induction N with
  | zero => intro q _ _ _ h; have := count_pos q; omega
  | succ N ih =>
    intro q cs w ok hN hM hj
    obtain ⟨k, t, a, b, c⟩ := q
    obtain ⟨sa, sb, sc, rfl, ra, rb, rc⟩ := hj.all.rows
    obtain ⟨aa, ca, rfl⟩ := ra.shape
    obtain ⟨ab, cb, rfl⟩ := rb.shape
    obtain ⟨ac, cc, rfl⟩ := rc.shape
    have hcl := countK_len (kidsQ a b c)
    have hck : Dx.countK (kidsQ a b c) + 1 = Dx.count (.mk k t a b c) := by simp only [kidsQ, countK_app, Dx.count]; omega
    have hdk : Dx.deep (.mk k t a b c) = Dx.deepK (kidsQ a b c) + 1 := by simp only [kidsQ, deepK_app, Dx.deep]; omega
    have hsum : a.length + b.length + c.length ≤ 1000000 := by
      have : (kidsQ a b c).length = a.length + (b.length + c.length) := by simp [kidsQ]
      omega
    have hdc := deepK_count (kidsQ a b c)
    have IH := Lib.hid ih; have RA := Lib.hid ra; have RB := Lib.hid rb; have RC := Lib.hid rc
    have HB0 := Lib.hid ((Below.refl w.heap.size w).alloc (Nat.le_refl _) (.cells #[.int .i64 k, .string ⟨t.toArray⟩, .slice aa a.length ca, .slice ab b.length cb, .slice ac c.length cc] 26))
    rw [hdk]
    have hkN : Dx.countK (kidsQ a b c) ≤ N := by omega
    have hkM : Dx.countK (kidsQ a b c) ≤ 1000000 := by omega
    have KC := Lib.hid (show ∀ wq, Below w.heap.size w wq → Calls Tryz.prog 106 #[.agg #[.int .i64 k, .string ⟨t.toArray⟩, .slice aa a.length ca, .slice ab b.length cb, .slice ac c.length cc]] wq fun e w' => ∃ sv : Value, e = .returned sv ∧ QRow w' (fun g => g < w'.heap.size) sv (kidsQ a b c) ∧ Below wq.heap.size wq w' from fun wq hq =>
      rkids_calls k t a b c aa ab ac ca cb cc wq (fun g => g < w.heap.size) hsum (RA.out.below hq) (RB.out.below hq) (RC.out.below hq))
    obtain ⟨L, hL⟩ : ∃ L, L = kidsQ a b c := ⟨_, rfl⟩
    rw [← hL] at KC hcl hdc hkN hkM ⊢
    clear ih ra rb rc hN hM hj hck hdk hL
    go_enter Tryz.func64, Tryz.ntmps64
    go_wp2_with fail
    refine (KC.out _ HB0.out).mono ?_
    rintro e w1 ⟨sv, rfl, hrow, hb⟩
    obtain ⟨al, cl, rfl⟩ := hrow.shape
    have RL := Lib.hid hrow
    have HB1 := Lib.hid (HB0.out.trans (hb.mono HB0.out.size))
    clear hrow hb
    go_wp2_with fail
    go_loopg [3, 5] (L.length) (fun g y z wr => ∃ (i m : Nat), y = .int .i64 m ∧ z = .int .i64 i ∧ g = L.length - i ∧ i ≤ L.length ∧ m ≤ 1000000 ∧ Hid (m = Dx.deepK (L.take i)) ∧ Hid (Below w1.heap.size w1 wr))
    case atStart => exact ⟨0, 0, rfl, rfl, rfl, by omega, by omega, Lib.hid (by simp [Dx.deepK]), Lib.hid (Below.refl _ _)⟩
    case round =>
      obtain ⟨i, m, rfl, rfl, hq, hi, hm, HM, hbr⟩ := hrel
      have HQ := Lib.hid hq
      clear hq
      rcases Nat.lt_or_ge i L.length with hil | hig
      · obtain ⟨x, hx⟩ : ∃ x, L[i]? = some x := ⟨L[i], by simp [hil]⟩
        obtain ⟨g, o, hv, _, hgl, xk, xt, xn1, xn2, xn3, xa1, xa2, xa3, xc1, xc2, xc3, hkj, d0, d1, d2, d3, d4⟩ := RL.out.kid' hx
        subst hv
        have b0 := (hbr.out.cell (p := ⟨g, o + i * 5, none⟩) hgl).trans d0
        have b1 := (hbr.out.cell (p := ⟨g, o + i * 5 + 1, none⟩) hgl).trans d1
        have b2 := (hbr.out.cell (p := ⟨g, o + i * 5 + 2, none⟩) hgl).trans d2
        have b3 := (hbr.out.cell (p := ⟨g, o + i * 5 + 3, none⟩) hgl).trans d3
        have b4 := (hbr.out.cell (p := ⟨g, o + i * 5 + 4, none⟩) hgl).trans d4
        have hcx := countK_get hx
        have hdx := deep_count x
        have hdt := deepK_take hx
        have HC := Lib.hid (IH.out x [.int .i64 xk, .string ⟨xt.toArray⟩, .slice xa1 xn1 xc1, .slice xa2 xn2 xc2, .slice xa3 xn3 xc3] wr _ (by omega) (by omega) (hkj.below hbr.out))
        have HDT := Lib.hid hdt
        have hilI : (i : Int) < (L.length : Int) := by omega
        clear hkj d0 d1 d2 d3 d4 hx hdt
        obtain ⟨r, hr⟩ : ∃ r, r = Dx.deep x := ⟨_, rfl⟩
        rw [← hr] at HC hdx
        have HRX := Lib.hid hr
        clear hr
        go_wp2_with fail
        refine HC.out.mono ?_
        rintro e w5 ⟨rfl, hb5⟩
        have HB5 := Lib.hid (hbr.out.trans (hb5.mono hbr.out.size))
        clear hb5 b0 b1 b2 b3 b4 HC
        by_cases hmr : m ≤ r
        · have hmx : max (m : Int) (r : Int) = r := by omega
          go_wp2
          go_roundg (L.length - (i + 1))
          case measure => have := HQ.out; omega
          case rel => exact ⟨i + 1, r, by first | rfl | (simp only [hmx]), by go_num, rfl, by omega, by omega, Lib.hid (by rw [HDT.out, ← HM.out, ← HRX.out]; omega), HB5⟩
        · have hmx : max (m : Int) (r : Int) = m := by omega
          go_wp2
          go_roundg (L.length - (i + 1))
          case measure => have := HQ.out; omega
          case rel => exact ⟨i + 1, m, by first | rfl | (simp only [hmx]), by go_num, rfl, by omega, hm, Lib.hid (by rw [HDT.out, ← HM.out, ← HRX.out]; omega), HB5⟩
      · have hik : i = L.length := by omega
        subst hik
        have hilI : ¬ (L.length : Int) < (L.length : Int) := by omega
        have hfin : m = Dx.deepK L := by rw [HM.out, List.take_length]
        have HF := Lib.hid hfin
        clear hfin
        go_wp2
        go_ret
        exact ⟨ret_int (by rw [← HF.out]), HB1.out.trans (hbr.out.mono HB1.out.size)⟩

set_option maxRecDepth 100000 in
set_option maxHeartbeats 4000000 in
theorem rnodes_calls : ∀ (N : Nat) (q : Dx.Qy) (cs : List Value) (w : World) (ok : Nat → Prop), Dx.count q ≤ N → Dx.count q ≤ 1000000 → Dx.qfit maxLen q → QyAt w ok q cs →
    Calls Tryz.prog 62 #[.agg cs.toArray] w fun e w' => e = .returned (.bool (Dx.nodesOk q)) ∧ Below w.heap.size w w' := by
  intro N
  induction N with
  | zero => intro q _ _ _ h; have := count_pos q; omega
  | succ N ih =>
    intro q cs w ok hN hM hf hj
    obtain ⟨k, t, a, b, c⟩ := q
    obtain ⟨sa, sb, sc, rfl, ra, rb, rc⟩ := hj.all.rows
    obtain ⟨aa, ca, rfl⟩ := ra.shape
    obtain ⟨ab, cb, rfl⟩ := rb.shape
    obtain ⟨ac, cc, rfl⟩ := rc.shape
    have hcl := countK_len (kidsQ a b c)
    have hck : Dx.countK (kidsQ a b c) + 1 = Dx.count (.mk k t a b c) := by simp only [kidsQ, countK_app, Dx.count]; omega
    have hdk : Dx.nodesOk (.mk k t a b c) = (Dx.nodeOk k t (a.length + b.length + c.length) && Dx.nodesOkK (kidsQ a b c)) := by
      simp only [kidsQ, nodesK_app, Dx.nodesOk]
      cases Dx.nodesOkK a <;> cases Dx.nodesOkK b <;> cases Dx.nodesOkK c <;> cases Dx.nodeOk k t (a.length + b.length + c.length) <;> rfl
    have hsum : a.length + b.length + c.length ≤ 1000000 := by
      have : (kidsQ a b c).length = a.length + (b.length + c.length) := by simp [kidsQ]
      omega
    simp only [Dx.qfit] at hf
    have hqf : Dx.qfitK maxLen (kidsQ a b c) := qfitK_app hf.2.1 (qfitK_app hf.2.2.1 hf.2.2.2)
    have htl := hf.1
    have IH := Lib.hid ih; have RA := Lib.hid ra; have RB := Lib.hid rb; have RC := Lib.hid rc
    have HB0 := Lib.hid ((Below.refl w.heap.size w).alloc (Nat.le_refl _) (.cells #[.int .i64 k, .string ⟨t.toArray⟩, .slice aa a.length ca, .slice ab b.length cb, .slice ac c.length cc] 26))
    have BOX := Lib.hid (heap_alloc_new w (.cells #[.int .i64 k, .string ⟨t.toArray⟩, .slice aa a.length ca, .slice ab b.length cb, .slice ac c.length cc] 26))
    have KC := Lib.hid (show ∀ wq, Below w.heap.size w wq → Calls Tryz.prog 106 #[.agg #[.int .i64 k, .string ⟨t.toArray⟩, .slice aa a.length ca, .slice ab b.length cb, .slice ac c.length cc]] wq fun e w' => ∃ sv : Value, e = .returned sv ∧ QRow w' (fun g => g < w'.heap.size) sv (kidsQ a b c) ∧ Below wq.heap.size wq w' from fun wq hq =>
      rkids_calls k t a b c aa ab ac ca cb cc wq (fun g => g < w.heap.size) hsum (RA.out.below hq) (RB.out.below hq) (RC.out.below hq))
    have NC := Lib.hid (rnode_calls k t a.length b.length c.length aa ab ac ca cb cc (w.alloc (.cells #[.int .i64 k, .string ⟨t.toArray⟩, .slice aa a.length ca, .slice ab b.length cb, .slice ac c.length cc] 26)) hsum htl)
    have hkN : Dx.countK (kidsQ a b c) ≤ N := by omega
    have hkM : Dx.countK (kidsQ a b c) ≤ 1000000 := by omega
    obtain ⟨L, hL⟩ : ∃ L, L = kidsQ a b c := ⟨_, rfl⟩
    obtain ⟨nd, hnd⟩ : ∃ nd, nd = Dx.nodeOk k t (a.length + b.length + c.length) := ⟨_, rfl⟩
    obtain ⟨R, hR⟩ : ∃ R, R = Dx.nodesOk (.mk k t a b c) := ⟨_, rfl⟩
    rw [← hR]
    rw [hdk, ← hL, ← hnd] at hR
    rw [← hL] at KC hcl hkN hkM hqf
    rw [← hnd] at NC
    have HR := Lib.hid hR; have HQF := Lib.hid hqf
    clear ih ra rb rc hN hM hj hck hdk hL hnd hR hf hqf htl
    go_enter Tryz.func62, Tryz.ntmps62
    go_wp2_with fail
    refine NC.out.mono ?_
    rintro e w0 ⟨rfl, hb⟩
    have HBn := Lib.hid (HB0.out.trans (hb.mono HB0.out.size))
    obtain ⟨q0, q1, q2, q3, q4, _⟩ := cells5 ((hb.block _ (heap_lt BOX.out)).trans BOX.out)
    clear hb NC
    go_wp2_with fail
    refine (KC.out _ HBn.out).mono ?_
    rintro e w1 ⟨sv, rfl, hrow, hb⟩
    obtain ⟨al, cl, rfl⟩ := hrow.shape
    have RL := Lib.hid hrow
    have HB1 := Lib.hid (HBn.out.trans (hb.mono HBn.out.size))
    clear hrow hb q0 q1 q2 q3 q4
    go_wp2_with fail
    go_loopg [3, 5] (L.length) (fun g y z wr => ∃ (i : Nat) (m : Bool), y = .bool m ∧ z = .int .i64 i ∧ g = L.length - i ∧ i ≤ L.length ∧ Hid (m = (nd && Dx.nodesOkK (L.take i))) ∧ Hid (Below w1.heap.size w1 wr))
    case atStart => exact ⟨0, nd, rfl, rfl, rfl, by omega, Lib.hid (by simp [Dx.nodesOkK]), Lib.hid (Below.refl _ _)⟩
    case round =>
      obtain ⟨i, m, rfl, rfl, hq, hi, HM, hbr⟩ := hrel
      have HQ := Lib.hid hq
      clear hq
      rcases Nat.lt_or_ge i L.length with hil | hig
      · obtain ⟨x, hx⟩ : ∃ x, L[i]? = some x := ⟨L[i], by simp [hil]⟩
        have hilI : (i : Int) < (L.length : Int) := by omega
        cases m with
        | false =>
          have hbad : R = false := by
            rw [HR.out]
            have h := HM.out
            cases hn : nd with
            | false => rfl
            | true =>
              rw [hn, Bool.true_and] at h
              have : Dx.nodesOkK L = false := by
                rw [show L = L.take i ++ L.drop i from (List.take_append_drop i L).symm, nodesK_app, ← h]; rfl
              rw [this]; rfl
          have HB := Lib.hid hbad
          clear hbad hx
          go_wp2
          go_ret
          exact ⟨by rw [HB.out]; rfl, HB1.out.trans (hbr.out.mono HB1.out.size)⟩
        | true =>
          obtain ⟨g, o, hv, _, hgl, xk, xt, xn1, xn2, xn3, xa1, xa2, xa3, xc1, xc2, xc3, hkj, d0, d1, d2, d3, d4⟩ := RL.out.kid' hx
          subst hv
          have b0 := (hbr.out.cell (p := ⟨g, o + i * 5, none⟩) hgl).trans d0
          have b1 := (hbr.out.cell (p := ⟨g, o + i * 5 + 1, none⟩) hgl).trans d1
          have b2 := (hbr.out.cell (p := ⟨g, o + i * 5 + 2, none⟩) hgl).trans d2
          have b3 := (hbr.out.cell (p := ⟨g, o + i * 5 + 3, none⟩) hgl).trans d3
          have b4 := (hbr.out.cell (p := ⟨g, o + i * 5 + 4, none⟩) hgl).trans d4
          have hcx := countK_get hx
          have HDT := Lib.hid (nodesK_take hx)
          have HC := Lib.hid (IH.out x [.int .i64 xk, .string ⟨xt.toArray⟩, .slice xa1 xn1 xc1, .slice xa2 xn2 xc2, .slice xa3 xn3 xc3] wr _ (by omega) (by omega) (Dx.qfitK_mem HQF.out (List.mem_of_getElem? hx)) (hkj.below hbr.out))
          clear hkj d0 d1 d2 d3 d4 hx
          obtain ⟨r, hr⟩ : ∃ r, r = Dx.nodesOk x := ⟨_, rfl⟩
          rw [← hr] at HC HDT
          clear hr
          go_wp2_with fail
          refine HC.out.mono ?_
          rintro e w5 ⟨rfl, hb5⟩
          have HB5 := Lib.hid (hbr.out.trans (hb5.mono hbr.out.size))
          have HM2 := Lib.hid (show r = (nd && Dx.nodesOkK (L.take (i + 1))) by
            rw [HDT.out, ← Bool.and_assoc, ← HM.out, Bool.true_and])
          clear hb5 b0 b1 b2 b3 b4 HC
          go_wp2
          go_roundg (L.length - (i + 1))
          case measure => have := HQ.out; omega
          case rel => exact ⟨i + 1, r, rfl, by go_num, rfl, by omega, HM2, HB5⟩
      · have hik : i = L.length := by omega
        subst hik
        have hilI : ¬ (L.length : Int) < (L.length : Int) := by omega
        have hfin : R = m := by rw [HR.out, HM.out, List.take_length]
        have HF := Lib.hid hfin
        clear hfin
        go_wp2
        go_ret
        exact ⟨by rw [HF.out]; rfl, HB1.out.trans (hbr.out.mono HB1.out.size)⟩

set_option maxRecDepth 100000 in
set_option maxHeartbeats 4000000 in
theorem rSize_calls (q : Dx.Qy) (cs : List Value) (w : World) (ok : Nat → Prop) (hj : QyAt w ok q cs) :
    Calls Tryz.prog 27 #[.agg cs.toArray] w fun e w' => e = .returned (.tuple #[.int .i64 (sizeA q), .int .i64 (sizeB q)]) ∧ Below w.heap.size w w' := by
  obtain ⟨Q, hQ⟩ : ∃ Q, Q = q := ⟨_, rfl⟩
  obtain ⟨k, t, a, b, c⟩ := q
  obtain ⟨sa, sb, sc, rfl, ra, rb, rc⟩ := hj.all.rows
  obtain ⟨aa, ca, rfl⟩ := ra.shape
  obtain ⟨ab, cb, rfl⟩ := rb.shape
  obtain ⟨ac, cc, rfl⟩ := rc.shape
  rw [← hQ] at hj ⊢
  have J := Lib.hid hj.all
  have HB0 := Lib.hid ((Below.refl w.heap.size w).alloc (Nat.le_refl _) (.cells #[.int .i64 k, .string ⟨t.toArray⟩, .slice aa a.length ca, .slice ab b.length cb, .slice ac c.length cc] 26))
  have BOX := Lib.hid (heap_alloc_new w (.cells #[.int .i64 k, .string ⟨t.toArray⟩, .slice aa a.length ca, .slice ab b.length cb, .slice ac c.length cc] 26))
  clear hQ ra rb rc hj
  go_enter Tryz.func27, Tryz.ntmps27
  go_wp2_with fail
  refine (show Calls Tryz.prog 63 #[.agg #[.int .i64 k, .string ⟨t.toArray⟩, .slice aa a.length ca, .slice ab b.length cb, .slice ac c.length cc], .int .i64 1000] _ _ from rcount_calls _ Q [.int .i64 k, .string ⟨t.toArray⟩, .slice aa a.length ca, .slice ab b.length cb, .slice ac c.length cc] 1000 _ _ (Nat.le_refl _) (J.out.below HB0.out) (by omega)).mono ?_
  rintro e w1 ⟨rfl, hb⟩
  have HB1 := Lib.hid (HB0.out.trans (hb.mono HB0.out.size))
  have BOX1 := Lib.hid ((hb.block _ (heap_lt BOX.out)).trans BOX.out)
  obtain ⟨q0, q1, q2, q3, q4, _⟩ := cells5 BOX1.out
  obtain ⟨N, hN⟩ : ∃ N : Nat, N = min (Dx.count Q) (1000 + 1) := ⟨_, rfl⟩
  rw [← hN]
  have HN := Lib.hid hN
  clear hb hN
  by_cases hn : N ≤ 1000
  · have hni : ¬ (1000 : Int) < (N : Int) := by omega
    have hM : Dx.count Q ≤ 1000000 := by have := HN.out; omega
    have hA : sizeA Q = N := by unfold sizeA; have := HN.out; rw [if_pos (by omega)]; omega
    have hB : sizeB Q = Dx.deep Q := by unfold sizeB; have := HN.out; rw [if_pos (by omega)]
    have HA := Lib.hid hA; have HBB := Lib.hid hB
    clear hA hB
    go_wp2_with fail
    refine (rdeep_calls _ Q [.int .i64 k, .string ⟨t.toArray⟩, .slice aa a.length ca, .slice ab b.length cb, .slice ac c.length cc] _ _ (Nat.le_refl _) hM (J.out.below HB1.out)).mono ?_
    rintro e w2 ⟨rfl, hb⟩
    have HB2 := Lib.hid (HB1.out.trans (hb.mono HB1.out.size))
    clear hb q0 q1 q2 q3 q4
    go_wp2_with fail
    go_ret2
    exact ⟨by rw [HA.out, HBB.out]; rfl, HB2.out⟩
  · have hni : (1000 : Int) < (N : Int) := by omega
    have hNe : (N : Int) = 1001 := by have := HN.out; omega
    have hA : sizeA Q = N := by unfold sizeA; have := HN.out; rw [if_neg (by omega)]; omega
    have hB : sizeB Q = 0 := by unfold sizeB; have := HN.out; rw [if_neg (by omega)]
    have HA := Lib.hid hA; have HBB := Lib.hid hB
    clear hA hB hNe
    go_wp2_with fail
    go_ret2
    exact ⟨by rw [HA.out, HBB.out]; rfl, HB1.out⟩

set_option maxRecDepth 100000 in
set_option maxHeartbeats 4000000 in
theorem rRight_calls (q : Dx.Qy) (cs : List Value) (w : World) (ok : Nat → Prop) (hf : Dx.qfit maxLen q) (hj : QyAt w ok q cs) :
    Calls Tryz.prog 26 #[.agg cs.toArray] w fun e w' => e = .returned (.bool (Dx.right q)) ∧ Below w.heap.size w w' := by
  obtain ⟨Q, hQ⟩ : ∃ Q, Q = q := ⟨_, rfl⟩
  obtain ⟨k, t, a, b, c⟩ := q
  obtain ⟨sa, sb, sc, rfl, ra, rb, rc⟩ := hj.all.rows
  obtain ⟨aa, ca, rfl⟩ := ra.shape
  obtain ⟨ab, cb, rfl⟩ := rb.shape
  obtain ⟨ac, cc, rfl⟩ := rc.shape
  rw [← hQ] at hj hf ⊢
  have J := Lib.hid hj.all; have HF := Lib.hid hf
  have HB0 := Lib.hid ((Below.refl w.heap.size w).alloc (Nat.le_refl _) (.cells #[.int .i64 k, .string ⟨t.toArray⟩, .slice aa a.length ca, .slice ab b.length cb, .slice ac c.length cc] 26))
  have BOX := Lib.hid (heap_alloc_new w (.cells #[.int .i64 k, .string ⟨t.toArray⟩, .slice aa a.length ca, .slice ab b.length cb, .slice ac c.length cc] 26))
  have hR : Dx.right Q = (decide (sizeA Q ≤ 100) && decide (sizeB Q ≤ 20) && Dx.nodesOk Q) := by
    unfold Dx.right sizeA sizeB
    by_cases h : Dx.count Q ≤ 1000
    · rw [if_pos h, if_pos h]
      have e1 : decide ((Dx.count Q : Int) ≤ 100) = decide (Dx.count Q ≤ 100) := by simp; omega
      have e2 : decide ((Dx.deep Q : Int) ≤ 20) = decide (Dx.deep Q ≤ 20) := by simp; omega
      rw [e1, e2]
    · rw [if_neg h, if_neg h]
      have e1 : decide (Dx.count Q ≤ 100) = false := by simp; omega
      rw [e1]; simp
  have hAc : sizeA Q ≤ 100 → Dx.count Q ≤ 1000000 := by unfold sizeA; split <;> omega
  obtain ⟨A, hA⟩ : ∃ A, A = sizeA Q := ⟨_, rfl⟩
  obtain ⟨B, hB⟩ : ∃ B, B = sizeB Q := ⟨_, rfl⟩
  rw [← hA, ← hB] at hR
  rw [← hA] at hAc
  have HRR := Lib.hid hR; have HAC := Lib.hid hAc
  have HA := Lib.hid hA; have HBB := Lib.hid hB
  obtain ⟨R, hR2⟩ : ∃ R, R = Dx.right Q := ⟨_, rfl⟩
  rw [← hR2] at HRR ⊢
  clear hQ ra rb rc hj hf hR hA hB hAc hR2
  go_enter Tryz.func26, Tryz.ntmps26
  go_wp2_with fail
  refine (rSize_calls Q [.int .i64 k, .string ⟨t.toArray⟩, .slice aa a.length ca, .slice ab b.length cb, .slice ac c.length cc] _ _ (J.out.below HB0.out)).mono ?_
  rintro e w1 ⟨rfl, hb⟩
  rw [← HA.out, ← HBB.out]
  have HB1 := Lib.hid (HB0.out.trans (hb.mono HB0.out.size))
  have BOX1 := Lib.hid ((hb.block _ (heap_lt BOX.out)).trans BOX.out)
  obtain ⟨q0, q1, q2, q3, q4, _⟩ := cells5 BOX1.out
  clear hb
  by_cases h1 : 100 < A
  · have HFIN := Lib.hid (show R = false by rw [HRR.out, decide_eq_false (by omega), Bool.false_and, Bool.false_and])
    go_wp2_with fail
    go_ret
    exact ⟨by rw [HFIN.out]; rfl, HB1.out⟩
  by_cases h2 : 20 < B
  · have HFIN := Lib.hid (show R = false by rw [HRR.out, decide_eq_false (show ¬ B ≤ 20 by omega), Bool.and_false, Bool.false_and])
    go_wp2_with fail
    go_ret
    exact ⟨by rw [HFIN.out]; rfl, HB1.out⟩
  obtain ⟨r, hr⟩ : ∃ r, r = Dx.nodesOk Q := ⟨_, rfl⟩
  have HR := Lib.hid hr
  have HFIN := Lib.hid (show R = r by rw [HRR.out, ← hr, decide_eq_true (show A ≤ 100 by omega), decide_eq_true (show B ≤ 20 by omega), Bool.true_and, Bool.true_and])
  clear hr
  go_wp2_with fail
  refine (rnodes_calls _ Q [.int .i64 k, .string ⟨t.toArray⟩, .slice aa a.length ca, .slice ab b.length cb, .slice ac c.length cc] _ _ (Nat.le_refl _) (HAC.out (by omega)) HF.out (J.out.below HB1.out)).mono ?_
  rw [← HR.out]
  rintro e w2 ⟨rfl, hb⟩
  have HB2 := Lib.hid (HB1.out.trans (hb.mono HB1.out.size))
  clear hb q0 q1 q2 q3 q4
  go_wp2_with fail
  go_ret
  exact ⟨by rw [HFIN.out]; rfl, HB2.out⟩

end Go.Proofs.YtejlddimokmgjaaGreatDoor
