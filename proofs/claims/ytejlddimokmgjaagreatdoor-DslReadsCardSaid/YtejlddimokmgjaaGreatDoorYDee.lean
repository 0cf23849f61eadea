/- WALKS: codexref21's query. -/
import Derived.Test.YtejlddimokmgjaaGreatDoorYDed
namespace Go.Proofs.YtejlddimokmgjaaGreatDoor
open Go.RowKit

/-- .. and where the region drew. -/
theorem RNPost.drew {r : Option Dx.Qy} {w : World} {e : Ending} {w' : World} (h : RNPost r w e w') : RNPost r w e w'.drew := by
  obtain ⟨q, cs, h1, h2, h3, h4, h5⟩ := h
  exact ⟨q, cs, h1, QyAt.kept (w := w') (w' := w'.drew) (Nat.le_refl _) (fun g hg _ => ⟨rfl, hg⟩) _ _ h2, h3, h4, h5.drew⟩
theorem only_nil {x : Cx.J} (hn : x.kind = 6 → x.names.length = x.kids.length) : Dx.only x [] = (x.kind == 6 && x.kids.length == 0) := by
  unfold Dx.only
  by_cases h : x.kind = 6
  · rw [decide_eq_true h, beq_iff_eq.2 h, Bool.true_and, Bool.true_and, ← hn h]
    cases x.names <;> simp
  · rw [decide_eq_false h, beq_eq_false_iff_ne.2 h]; rfl
theorem single_none {v : Cx.J} (h : ¬ (v.kind = 6 ∧ v.kids.length = 1)) : Dx.nodeQ v = none := nodeQ_none (by unfold Dx.single; rw [if_neg h]; rfl)

set_option maxRecDepth 100000 in
set_option maxHeartbeats 4000000 in
theorem rquery_no (v : Cx.J) (cs : List Value) (w : World) (ok : Nat → Prop) (hj : JAt w ok v cs) (hs : ¬ (v.kind = 6 ∧ v.kids.length = 1)) :
    Calls Tryz.prog 41 #[.agg cs.toArray] w (RNPost (Dx.nodeQ v) w) := by
  have NO := Lib.hid (single_none hs)
  obtain ⟨R, hR⟩ : ∃ R, R = Dx.nodeQ v := ⟨_, rfl⟩
  rw [← hR] at NO ⊢
  clear hR
  cases v with
  | mk k is t ns ks =>
  obtain ⟨a, nc, a', kc, rfl⟩ := hj.shape
  obtain ⟨W, hW⟩ : ∃ W, W = (w.alloc (.cells #[.int .i64 k, .bool is, .string ⟨t.toArray⟩, .slice a ns.length nc, .slice a' ks.length kc] 48)).alloc (.cells #[.int .i64 0, .string ⟨#[]⟩, .slice none 0 0, .slice none 0 0, .slice none 0 0] 26) := ⟨_, rfl⟩
  have HB0 := Lib.hid (show Below w.heap.size w W by rw [hW]; exact ((Below.refl w.heap.size w).alloc (Nat.le_refl _) _).alloc (by simp) _)
  have BV0 := Lib.hid (show W.heap[w.heap.size]? = some (.cells #[.int .i64 k, .bool is, .string ⟨t.toArray⟩, .slice a ns.length nc, .slice a' ks.length kc] 48 (0, 0)) by
    rw [hW, Below.heap_alloc _ _ _ (by simp)]; exact heap_alloc_new w _)
  have BR0 := Lib.hid (show W.heap[w.heap.size + 1]? = some (.cells #[.int .i64 0, .string ⟨#[]⟩, .slice none 0 0, .slice none 0 0, .slice none 0 0] 26 (0, 0)) by
    rw [hW]
    have := heap_alloc_new (w.alloc (.cells #[.int .i64 k, .bool is, .string ⟨t.toArray⟩, .slice a ns.length nc, .slice a' ks.length kc] 48)) (.cells #[.int .i64 0, .string ⟨#[]⟩, .slice none 0 0, .slice none 0 0, .slice none 0 0] 26)
    simpa using this)
  have HW := Lib.hid hW
  replace hs : ¬ (k = 6 ∧ ks.length = 1) := hs
  have hc : (k != 6) = true ∨ (k = 6 ∧ ((ks.length : Int) != 1) = true) := by
    by_cases h : k = 6
    · refine .inr ⟨h, ?_⟩
      have : ks.length ≠ 1 := fun h2 => hs ⟨h, h2⟩
      rw [bne_iff_ne]; omega
    · exact .inl (bne_iff_ne.2 h)
  have FIN := Lib.hid (rnode_fin (r := R) (Q := .mk 0 [] [] [] []) (f := false) HB0.out BR0.out QyAt.plain (fun q hq => by rw [NO.out] at hq; cases hq) (qfit_plain (Nat.zero_le _)) (by rw [NO.out]; rfl))
  clear hj hW hs
  go_enter Tryz.func41, Tryz.ntmps41
  go_upto_region 1 with fail
  rw [← HW.out]
  clear HW
  obtain ⟨q0, q1, q2, q3, q4, _⟩ := cells5 BV0.out
  obtain ⟨p0, p1, p2, p3, p4, pf⟩ := cells5 BR0.out
  have pf0 := pf 0; have pf1 := pf 1; have pf2 := pf 2; have pf3 := pf 3; have pf4 := pf 4
  clear pf
  rcases hc with h1 | ⟨rfl, h1⟩
  all_goals
    go_wp2_with fail
    obtain ⟨fin, zb⟩ := FIN.out
    obtain ⟨z0, z1, z2, z3, z4, _⟩ := cells5 zb
    exact bodyPost_ret (v := .tuple #[.agg #[.int .i64 0, .string ⟨#[]⟩, .slice none 0 0, .slice none 0 0, .slice none 0 0], .bool false]) (by simp [results, Tryz.results41, go_sem, z0, z1, z2, z3, z4]) rfl fin

set_option maxRecDepth 100000 in
set_option maxHeartbeats 4000000 in
theorem rquery_yes (v : Cx.J) (cs : List Value) (w : World) (ok : Nat → Prop) (hj : JAt w ok v cs) (hf : fit 100000 v) (hr : NR v) (hs : v.kind = 6 ∧ v.kids.length = 1)
    (hlists : ∀ (cs : List Value) (wr : World) (ok : Nat → Prop), JAt wr ok (singleV v) cs → Calls Tryz.prog 81 #[.agg cs.toArray] wr (RNPost (rlistsQ (singleV v)) wr)) :
    Calls Tryz.prog 41 #[.agg cs.toArray] w (RNPost (Dx.nodeQ v) w) := by
  cases v with
  | mk k is t ns ks =>
  have hj := hj.all
  obtain ⟨a, nc, a', kc, rfl⟩ := hj.shape
  obtain ⟨x, rfl⟩ : ∃ x, ks = [x] := List.length_eq_one_iff.1 hs.2
  obtain ⟨nm, rfl⟩ : ∃ n, ns = [n] := List.length_eq_one_iff.1 (hr.1 hs.1)
  obtain rfl : k = 6 := hs.1
  have hso : Dx.single (.mk 6 is t [nm] [x]) = some (nm, x) := rfl
  have hsn : singleN (.mk 6 is t [nm] [x]) = nm := rfl
  have hsv : singleV (.mk 6 is t [nm] [x]) = x := rfl
  rw [hsv] at hlists
  have hq := nodeQ_single (v := .mk 6 is t [nm] [x]) rfl
  rw [hsn, hsv] at hq
  have hxr : x.kind = 6 → x.names.length = x.kids.length := (hr.2 x (by simp [Cx.J.kids])).names
  rw [only_nil hxr] at hq
  have hfx : fit 100000 x := by have := single_fit hf; rw [hsv] at this; exact this
  obtain ⟨R, hR⟩ : ∃ R, R = Dx.nodeQ (.mk 6 is t [nm] [x]) := ⟨_, rfl⟩
  rw [← hR] at hq ⊢
  obtain ⟨g, o, cap, hv, _, hgl, kb0, kb1, kb2, kb3, hkj, d0, d1, d2, d3, d4⟩ := hj.kid' (i := 0) (k := x) rfl
  injection hv with ha' _ hkc
  subst ha'
  clear hkc
  obtain ⟨g', o', rfl, _, hgl', b0⟩ := hj.names_row.at_ (i := 0) (u := strV nm) rfl
  have b0' : w.cell? ⟨g', o', none⟩ = some (.string ⟨nm.toArray⟩) := b0
  simp only [Nat.zero_mul, Nat.add_zero] at d0 d1 d2 d3 d4
  cases x with
  | mk k2 is2 t2 ns2 ks2 =>
  simp only [Cx.J.kind, Cx.J.is, Cx.J.text, Cx.J.names, Cx.J.kids] at d0 d1 d2 d3 d4 hkj
  replace hq : R = if nm = Dx.tAll then (if (k2 == 6 && ks2.length == 0) = true then some (.mk 1 [] [] [] []) else none)
      else if nm = Dx.tTerm then (if k2 = 4 then some (.mk 2 t2 [] [] []) else none)
      else if nm = Dx.tPhrase then (if k2 = 4 then some (.mk 3 t2 [] [] []) else none)
      else if nm = Dx.tPrefix then (if k2 = 4 then some (.mk 4 t2 [] [] []) else none)
      else if nm = Dx.tBool ∧ Dx.only (.mk k2 is2 t2 ns2 ks2) [Dx.tMust, Dx.tShould, Dx.tNot] = true then Dx.listsQ Dx.nodeQ (.mk k2 is2 t2 ns2 ks2)
      else none := hq
  have FX := Lib.hid hfx; have KJ := Lib.hid hkj; have HQ0 := Lib.hid hq; have HL := Lib.hid hlists
  obtain ⟨W, hW⟩ : ∃ W, W = (w.alloc (.cells #[.int .i64 6, .bool is, .string ⟨t.toArray⟩, .slice (some ⟨g', o', none⟩) 1 nc, .slice (some ⟨g, o, none⟩) 1 kc] 48)).alloc (.cells #[.int .i64 0, .string ⟨#[]⟩, .slice none 0 0, .slice none 0 0, .slice none 0 0] 26) := ⟨_, rfl⟩
  have HB0 := Lib.hid (show Below w.heap.size w W by rw [hW]; exact ((Below.refl w.heap.size w).alloc (Nat.le_refl _) _).alloc (by simp) _)
  have BV0 := Lib.hid (show W.heap[w.heap.size]? = some (.cells #[.int .i64 6, .bool is, .string ⟨t.toArray⟩, .slice (some ⟨g', o', none⟩) 1 nc, .slice (some ⟨g, o, none⟩) 1 kc] 48 (0, 0)) by
    rw [hW, Below.heap_alloc _ _ _ (by simp)]; exact heap_alloc_new w _)
  have BR0 := Lib.hid (show W.heap[w.heap.size + 1]? = some (.cells #[.int .i64 0, .string ⟨#[]⟩, .slice none 0 0, .slice none 0 0, .slice none 0 0] 26 (0, 0)) by
    rw [hW]
    have := heap_alloc_new (w.alloc (.cells #[.int .i64 6, .bool is, .string ⟨t.toArray⟩, .slice (some ⟨g', o', none⟩) 1 nc, .slice (some ⟨g, o, none⟩) 1 kc] 48)) (.cells #[.int .i64 0, .string ⟨#[]⟩, .slice none 0 0, .slice none 0 0, .slice none 0 0] 26)
    simpa using this)
  have hWs : W.heap.size = w.heap.size + 2 := by rw [hW]; simp
  have HWS := Lib.hid hWs
  have E0 := Lib.hid (And.intro ((HB0.out.cell (p := ⟨g, o, none⟩) hgl).trans d0) (And.intro ((HB0.out.cell (p := ⟨g, o + 1, none⟩) hgl).trans d1) (And.intro ((HB0.out.cell (p := ⟨g, o + 2, none⟩) hgl).trans d2) (And.intro ((HB0.out.cell (p := ⟨g, o + 3, none⟩) hgl).trans d3) ((HB0.out.cell (p := ⟨g, o + 4, none⟩) hgl).trans d4)))))
  have F0 := Lib.hid b0'
  have HGL' := Lib.hid hgl'
  have J0 := Lib.hid (hkj.all.below HB0.out).all
  have HW := Lib.hid hW
  obtain ⟨W2, hW2⟩ : ∃ W2, W2 = W.alloc (.cells #[.int .i64 k2, .bool is2, .string ⟨t2.toArray⟩, .slice kb0 ns2.length kb1, .slice kb2 ks2.length kb3] 48) := ⟨_, rfl⟩
  have b02 : Below W.heap.size W W2 := by rw [hW2]; exact (Below.refl _ _).alloc (Nat.le_refl _) _
  have HB2 := Lib.hid (HB0.out.trans (b02.mono (by omega)))
  have BV2 := Lib.hid ((b02.block _ (heap_lt BV0.out)).trans BV0.out)
  have BR2 := Lib.hid ((b02.block _ (heap_lt BR0.out)).trans BR0.out)
  have BX2 := Lib.hid (show W2.heap[W.heap.size]? = some (.cells #[.int .i64 k2, .bool is2, .string ⟨t2.toArray⟩, .slice kb0 ns2.length kb1, .slice kb2 ks2.length kb3] 48 (0, 0)) by rw [hW2]; exact heap_alloc_new W _)
  have J2 := Lib.hid ((J0.out.below b02).all)
  have b1lt : w.heap.size + 1 < W2.heap.size := heap_lt BR2.out
  have b1ne : w.heap.size + 1 ≠ W.heap.size := by omega
  have hlo : w.heap.size + 2 ≤ W2.heap.size := by have := b02.size; omega
  have HW2 := Lib.hid hW2
  have TL := Lib.hid (show t2.length ≤ maxLen by have := hfx.1; unfold maxLen; omega)
  clear hj hf hr hs hso hsn hsv hq hxr hfx hR hkj hlists hW hWs d0 d1 d2 d3 d4 b0 b0' hgl hgl' b02 hW2
  go_enter Tryz.func41, Tryz.ntmps41
  go_upto_region 1 with fail
  rw [← HW.out]
  clear HW
  obtain ⟨q0, q1, q2, q3, q4, _⟩ := cells5 BV0.out
  obtain ⟨e0, e1, e2, e3, e4⟩ := E0.out
  clear E0
  go_upto_region 4 with fail
  rw [← HW2.out]
  clear HW2 e0 e1 e2 e3 e4 q0 q1 q2 q3 q4 BV0 BR0 HB0 J0
  obtain ⟨v0, v1, v2, v3, v4, _⟩ := cells5 BV2.out
  obtain ⟨q0, q1, q2, q3, q4, _⟩ := cells5 BX2.out
  have n0 : W2.cell? ⟨g', o', none⟩ = some (.string ⟨nm.toArray⟩) := (HB2.out.cell (p := ⟨g', o', none⟩) HGL'.out).trans F0.out
  have hq := HQ0.out
  clear HQ0
  by_cases htAll : nm = Dx.tAll
  · rw [if_pos htAll] at hq
    have ctAll : (nm == [109, 97, 116, 99, 104, 95, 97, 108, 108]) = true := beq_iff_eq.2 htAll
    obtain ⟨p0, p1, p2, p3, p4, pf⟩ := cells5 BR2.out
    have pf0 := pf 0; have pf1 := pf 1; have pf2 := pf 2; have pf3 := pf 3; have pf4 := pf 4
    clear pf
    have HQ := Lib.hid hq
    clear hq htAll
    by_cases h6 : k2 = 6
    · by_cases hl0 : ks2.length = 0
      · have k6 : (k2 == 6) = true := beq_iff_eq.2 h6
        have l0 : ((ks2.length : Int) == 0) = true := beq_iff_eq.2 (by omega)
        have YES := Lib.hid (show R = some (.mk 1 [] [] [] []) by rw [HQ.out, k6, show (ks2.length == 0) = true from beq_iff_eq.2 hl0]; rfl)
        have FIN := Lib.hid (rnode_fin (r := R) (Q := .mk 1 [] [] [] []) (f := true) HB2.out BR2.out QyAt.plain (fun q hq => by rw [YES.out] at hq; injection hq) (qfit_plain (Nat.zero_le _)) (by rw [YES.out]; rfl))
        clear HQ h6 hl0
        go_wp2_with fail
        go_region
        go_wp2_with fail
        obtain ⟨fin, zb⟩ := FIN.out
        obtain ⟨z0, z1, z2, z3, z4, _⟩ := cells5 zb
        exact bodyPost_ret (v := .tuple #[.agg #[.int .i64 1, .string ⟨#[]⟩, .slice none 0 0, .slice none 0 0, .slice none 0 0], .bool true]) (by simp [results, Tryz.results41, go_sem, z0, z1, z2, z3, z4]) rfl fin.drew
      · have k6 : (k2 == 6) = true := beq_iff_eq.2 h6
        have l0 : ((ks2.length : Int) == 0) = false := beq_eq_false_iff_ne.2 (by omega)
        have NO := Lib.hid (show R = none by rw [HQ.out, k6, show (ks2.length == 0) = false from beq_eq_false_iff_ne.2 hl0]; rfl)
        have FIN := Lib.hid (rnode_fin (r := R) (Q := .mk 1 [] [] [] []) (f := false) HB2.out BR2.out QyAt.plain (fun q hq => by rw [NO.out] at hq; cases hq) (qfit_plain (Nat.zero_le _)) (by rw [NO.out]; rfl))
        clear HQ h6 hl0
        go_wp2_with fail
        go_region
        go_wp2_with fail
        obtain ⟨fin, zb⟩ := FIN.out
        obtain ⟨z0, z1, z2, z3, z4, _⟩ := cells5 zb
        exact bodyPost_ret (v := .tuple #[.agg #[.int .i64 1, .string ⟨#[]⟩, .slice none 0 0, .slice none 0 0, .slice none 0 0], .bool false]) (by simp [results, Tryz.results41, go_sem, z0, z1, z2, z3, z4]) rfl fin.drew
    · have k6 : (k2 == 6) = false := beq_eq_false_iff_ne.2 h6
      have NO := Lib.hid (show R = none by rw [HQ.out, k6]; rfl)
      have FIN := Lib.hid (rnode_fin (r := R) (Q := .mk 1 [] [] [] []) (f := false) HB2.out BR2.out QyAt.plain (fun q hq => by rw [NO.out] at hq; cases hq) (qfit_plain (Nat.zero_le _)) (by rw [NO.out]; rfl))
      clear HQ h6
      go_wp2_with fail
      go_region
      go_wp2_with fail
      obtain ⟨fin, zb⟩ := FIN.out
      obtain ⟨z0, z1, z2, z3, z4, _⟩ := cells5 zb
      exact bodyPost_ret (v := .tuple #[.agg #[.int .i64 1, .string ⟨#[]⟩, .slice none 0 0, .slice none 0 0, .slice none 0 0], .bool false]) (by simp [results, Tryz.results41, go_sem, z0, z1, z2, z3, z4]) rfl fin.drew
  rw [if_neg htAll] at hq
  have ctAll : (nm == [109, 97, 116, 99, 104, 95, 97, 108, 108]) = false := beq_eq_false_iff_ne.2 htAll
  by_cases htTerm : nm = Dx.tTerm
  · rw [if_pos htTerm] at hq
    have ctTerm : (nm == [116, 101, 114, 109]) = true := beq_iff_eq.2 htTerm
    obtain ⟨p0, p1, p2, p3, p4, pf⟩ := cells5 BR2.out
    have pf0 := pf 0; have pf1 := pf 1; have pf2 := pf 2; have pf3 := pf 3; have pf4 := pf 4
    clear pf
    have HQ := Lib.hid hq
    clear hq htTerm htAll
    by_cases h4 : k2 = 4
    · have k4 : (k2 == 4) = true := beq_iff_eq.2 h4
      have YES := Lib.hid (show R = some (.mk 2 t2 [] [] []) by rw [HQ.out, if_pos h4])
      have FIN := Lib.hid (rnode_fin (r := R) (Q := .mk 2 t2 [] [] []) (f := true) HB2.out BR2.out QyAt.plain (fun q hq => by rw [YES.out] at hq; injection hq) (qfit_plain TL.out) (by rw [YES.out]; rfl))
      clear HQ h4
      go_wp2_with fail
      go_region
      go_wp2_with fail
      obtain ⟨fin, zb⟩ := FIN.out
      obtain ⟨z0, z1, z2, z3, z4, _⟩ := cells5 zb
      exact bodyPost_ret (v := .tuple #[.agg #[.int .i64 2, .string ⟨t2.toArray⟩, .slice none 0 0, .slice none 0 0, .slice none 0 0], .bool true]) (by simp [results, Tryz.results41, go_sem, z0, z1, z2, z3, z4]) rfl fin.drew
    · have k4 : (k2 == 4) = false := beq_eq_false_iff_ne.2 h4
      have NO := Lib.hid (show R = none by rw [HQ.out, if_neg h4])
      have FIN := Lib.hid (rnode_fin (r := R) (Q := .mk 2 t2 [] [] []) (f := false) HB2.out BR2.out QyAt.plain (fun q hq => by rw [NO.out] at hq; cases hq) (qfit_plain TL.out) (by rw [NO.out]; rfl))
      clear HQ h4
      go_wp2_with fail
      go_region
      go_wp2_with fail
      obtain ⟨fin, zb⟩ := FIN.out
      obtain ⟨z0, z1, z2, z3, z4, _⟩ := cells5 zb
      exact bodyPost_ret (v := .tuple #[.agg #[.int .i64 2, .string ⟨t2.toArray⟩, .slice none 0 0, .slice none 0 0, .slice none 0 0], .bool false]) (by simp [results, Tryz.results41, go_sem, z0, z1, z2, z3, z4]) rfl fin.drew
  rw [if_neg htTerm] at hq
  have ctTerm : (nm == [116, 101, 114, 109]) = false := beq_eq_false_iff_ne.2 htTerm
  by_cases htPhrase : nm = Dx.tPhrase
  · rw [if_pos htPhrase] at hq
    have ctPhrase : (nm == [112, 104, 114, 97, 115, 101]) = true := beq_iff_eq.2 htPhrase
    obtain ⟨p0, p1, p2, p3, p4, pf⟩ := cells5 BR2.out
    have pf0 := pf 0; have pf1 := pf 1; have pf2 := pf 2; have pf3 := pf 3; have pf4 := pf 4
    clear pf
    have HQ := Lib.hid hq
    clear hq htPhrase htAll htTerm
    by_cases h4 : k2 = 4
    · have k4 : (k2 == 4) = true := beq_iff_eq.2 h4
      have YES := Lib.hid (show R = some (.mk 3 t2 [] [] []) by rw [HQ.out, if_pos h4])
      have FIN := Lib.hid (rnode_fin (r := R) (Q := .mk 3 t2 [] [] []) (f := true) HB2.out BR2.out QyAt.plain (fun q hq => by rw [YES.out] at hq; injection hq) (qfit_plain TL.out) (by rw [YES.out]; rfl))
      clear HQ h4
      go_wp2_with fail
      go_region
      go_wp2_with fail
      obtain ⟨fin, zb⟩ := FIN.out
      obtain ⟨z0, z1, z2, z3, z4, _⟩ := cells5 zb
      exact bodyPost_ret (v := .tuple #[.agg #[.int .i64 3, .string ⟨t2.toArray⟩, .slice none 0 0, .slice none 0 0, .slice none 0 0], .bool true]) (by simp [results, Tryz.results41, go_sem, z0, z1, z2, z3, z4]) rfl fin.drew
    · have k4 : (k2 == 4) = false := beq_eq_false_iff_ne.2 h4
      have NO := Lib.hid (show R = none by rw [HQ.out, if_neg h4])
      have FIN := Lib.hid (rnode_fin (r := R) (Q := .mk 3 t2 [] [] []) (f := false) HB2.out BR2.out QyAt.plain (fun q hq => by rw [NO.out] at hq; cases hq) (qfit_plain TL.out) (by rw [NO.out]; rfl))
      clear HQ h4
      go_wp2_with fail
      go_region
      go_wp2_with fail
      obtain ⟨fin, zb⟩ := FIN.out
      obtain ⟨z0, z1, z2, z3, z4, _⟩ := cells5 zb
      exact bodyPost_ret (v := .tuple #[.agg #[.int .i64 3, .string ⟨t2.toArray⟩, .slice none 0 0, .slice none 0 0, .slice none 0 0], .bool false]) (by simp [results, Tryz.results41, go_sem, z0, z1, z2, z3, z4]) rfl fin.drew
  rw [if_neg htPhrase] at hq
  have ctPhrase : (nm == [112, 104, 114, 97, 115, 101]) = false := beq_eq_false_iff_ne.2 htPhrase
  by_cases htPrefix : nm = Dx.tPrefix
  · rw [if_pos htPrefix] at hq
    have ctPrefix : (nm == [112, 114, 101, 102, 105, 120]) = true := beq_iff_eq.2 htPrefix
    obtain ⟨p0, p1, p2, p3, p4, pf⟩ := cells5 BR2.out
    have pf0 := pf 0; have pf1 := pf 1; have pf2 := pf 2; have pf3 := pf 3; have pf4 := pf 4
    clear pf
    have HQ := Lib.hid hq
    clear hq htPrefix htAll htTerm htPhrase
    by_cases h4 : k2 = 4
    · have k4 : (k2 == 4) = true := beq_iff_eq.2 h4
      have YES := Lib.hid (show R = some (.mk 4 t2 [] [] []) by rw [HQ.out, if_pos h4])
      have FIN := Lib.hid (rnode_fin (r := R) (Q := .mk 4 t2 [] [] []) (f := true) HB2.out BR2.out QyAt.plain (fun q hq => by rw [YES.out] at hq; injection hq) (qfit_plain TL.out) (by rw [YES.out]; rfl))
      clear HQ h4
      go_wp2_with fail
      go_region
      go_wp2_with fail
      obtain ⟨fin, zb⟩ := FIN.out
      obtain ⟨z0, z1, z2, z3, z4, _⟩ := cells5 zb
      exact bodyPost_ret (v := .tuple #[.agg #[.int .i64 4, .string ⟨t2.toArray⟩, .slice none 0 0, .slice none 0 0, .slice none 0 0], .bool true]) (by simp [results, Tryz.results41, go_sem, z0, z1, z2, z3, z4]) rfl fin.drew
    · have k4 : (k2 == 4) = false := beq_eq_false_iff_ne.2 h4
      have NO := Lib.hid (show R = none by rw [HQ.out, if_neg h4])
      have FIN := Lib.hid (rnode_fin (r := R) (Q := .mk 4 t2 [] [] []) (f := false) HB2.out BR2.out QyAt.plain (fun q hq => by rw [NO.out] at hq; cases hq) (qfit_plain TL.out) (by rw [NO.out]; rfl))
      clear HQ h4
      go_wp2_with fail
      go_region
      go_wp2_with fail
      obtain ⟨fin, zb⟩ := FIN.out
      obtain ⟨z0, z1, z2, z3, z4, _⟩ := cells5 zb
      exact bodyPost_ret (v := .tuple #[.agg #[.int .i64 4, .string ⟨t2.toArray⟩, .slice none 0 0, .slice none 0 0, .slice none 0 0], .bool false]) (by simp [results, Tryz.results41, go_sem, z0, z1, z2, z3, z4]) rfl fin.drew
  rw [if_neg htPrefix] at hq
  have ctPrefix : (nm == [112, 114, 101, 102, 105, 120]) = false := beq_eq_false_iff_ne.2 htPrefix
  by_cases htBool : nm = Dx.tBool
  · have HQ := Lib.hid (show R = rlistsQ (.mk k2 is2 t2 ns2 ks2) by
      rw [hq]
      unfold rlistsQ
      by_cases h : Dx.only (.mk k2 is2 t2 ns2 ks2) [Dx.tMust, Dx.tShould, Dx.tNot] = true
      · rw [if_pos ⟨htBool, h⟩, if_pos h]
      · rw [if_neg (fun h2 => h h2.2), if_neg h])
    have ctBool : (nm == [98, 111, 111, 108]) = true := beq_iff_eq.2 htBool
    clear hq htBool htAll htTerm htPhrase htPrefix
    go_wp2_with fail
    refine (HL.out [.int .i64 k2, .bool is2, .string ⟨t2.toArray⟩, .slice kb0 ns2.length kb1, .slice kb2 ks2.length kb3] _ _ J2.out).mono ?_
    rw [← HQ.out]
    rintro e w5 ⟨Q, qcs, rfl, hqa, hqp, hqf, hb⟩
    obtain ⟨QQ, hQQ⟩ : ∃ QQ, QQ = Q := ⟨_, rfl⟩
    obtain ⟨xk, xt, A, B, C⟩ := Q
    obtain ⟨s1, s2, s3, rfl, r1, r2, r3⟩ := hqa.rows
    obtain ⟨xa1, xc1, rfl⟩ := r1.shape
    obtain ⟨xa2, xc2, rfl⟩ := r2.shape
    obtain ⟨xa3, xc3, rfl⟩ := r3.shape
    rw [← hQQ] at hqa hqp hqf
    obtain ⟨f, hf⟩ : ∃ f, f = R.isSome := ⟨_, rfl⟩
    rw [← hf]
    have hz5 := hb.size
    have HB5 := Lib.hid (HB2.out.trans (hb.mono HB2.out.size))
    have BR5 := Lib.hid ((hb.block _ b1lt).trans BR2.out)
    have FIN := Lib.hid (rnode_fin (r := R) (Q := QQ) (f := f) HB5.out BR5.out (QyAt.kept (Nat.le_refl _) (fun g hg _ => ⟨rfl, by omega⟩) _ _ hqa) hqp hqf hf.symm)
    obtain ⟨p0, p1, p2, p3, p4, pf⟩ := cells5 BR5.out
    have pf0 := pf 0; have pf1 := pf 1; have pf2 := pf 2; have pf3 := pf 3; have pf4 := pf 4
    clear pf
    clear hqa hqp hqf hb hf r1 r2 r3 q0 q1 q2 q3 q4 v0 v1 v2 v3 v4 n0 hQQ
    go_wp2_with fail
    obtain ⟨fin, zb⟩ := FIN.out
    obtain ⟨z0, z1, z2, z3, z4, _⟩ := cells5 zb
    exact bodyPost_ret (v := .tuple #[.agg #[.int .i64 xk, .string ⟨xt.toArray⟩, .slice xa1 A.length xc1, .slice xa2 B.length xc2, .slice xa3 C.length xc3], .bool f]) (by simp [results, Tryz.results41, go_sem, z0, z1, z2, z3, z4]) rfl fin
  · have NO := Lib.hid (show R = none by rw [hq, if_neg (fun h => htBool h.1)])
    have ctBool : (nm == [98, 111, 111, 108]) = false := beq_eq_false_iff_ne.2 htBool
    obtain ⟨p0, p1, p2, p3, p4, pf⟩ := cells5 BR2.out
    have pf0 := pf 0; have pf1 := pf 1; have pf2 := pf 2; have pf3 := pf 3; have pf4 := pf 4
    clear pf
    have FIN := Lib.hid (rnode_fin (r := R) (Q := .mk 0 t2 [] [] []) (f := false) HB2.out BR2.out QyAt.plain (fun q hq => by rw [NO.out] at hq; cases hq) (qfit_plain TL.out) (by rw [NO.out]; rfl))
    clear hq htBool htAll htTerm htPhrase htPrefix
    go_wp2_with fail
    go_region
    go_wp2_with fail
    obtain ⟨fin, zb⟩ := FIN.out
    obtain ⟨z0, z1, z2, z3, z4, _⟩ := cells5 zb
    exact bodyPost_ret (v := .tuple #[.agg #[.int .i64 0, .string ⟨t2.toArray⟩, .slice none 0 0, .slice none 0 0, .slice none 0 0], .bool false]) (by simp [results, Tryz.results41, go_sem, z0, z1, z2, z3, z4]) rfl fin.drew

theorem rquery_all : ∀ (N : Nat) (v : Cx.J) (cs : List Value) (w : World) (ok : Nat → Prop), Cx.nodes v ≤ N → JAt w ok v cs → fit 100000 v → NR v →
    Calls Tryz.prog 41 #[.agg cs.toArray] w (RNPost (Dx.nodeQ v) w)
  | 0, v, _, _, _, h, _, _, _ => by have := nodes_pos v; omega
  | N + 1, v, cs, w, ok, hN, hj, hf, hr => by
    by_cases hs : v.kind = 6 ∧ v.kids.length = 1
    · have hss : (Dx.single v).isSome = true := by unfold Dx.single; rw [if_pos hs]; rfl
      have hm := singleV_nodes hss
      have h1 := Dx.nodes_kid hm
      exact rquery_yes v cs w ok hj hf hr hs fun cs wr ok hj' => rlists_calls (singleV v) cs wr ok hj' (single_fit hf) fun n k hk x hx cs wr' ok' hxj => by
        have hkm := Dx.get_mem hk
        have h2 := Dx.nodes_kid hkm; have h3 := Dx.nodes_kid hx
        exact rquery_all N x cs wr' ok' (by omega) hxj (Dx.fit_kids (Dx.fit_kids (single_fit hf) hkm) hx) (NR.of (((hr.2 _ hm).kid hkm).kid hx))
    · exact rquery_no v cs w ok hj hs
theorem rquery_calls (v : Cx.J) (cs : List Value) (w : World) (ok : Nat → Prop) (hj : JAt w ok v cs) (hf : fit 100000 v) (hr : NR v) :
    Calls Tryz.prog 41 #[.agg cs.toArray] w (RNPost (Dx.nodeQ v) w) := rquery_all _ v cs w ok (Nat.le_refl _) hj hf hr
end Go.Proofs.YtejlddimokmgjaaGreatDoor
