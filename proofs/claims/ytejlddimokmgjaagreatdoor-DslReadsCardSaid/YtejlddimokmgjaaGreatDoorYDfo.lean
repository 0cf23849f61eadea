/- WALKS: codexref21's op. -/
import Derived.Test.YtejlddimokmgjaaGreatDoorYDee
import Derived.Test.YtejlddimokmgjaaGreatDoorKk
namespace Go.Proofs.YtejlddimokmgjaaGreatDoor
open Go.RowKit

/-- At the end: what is laid into the result's box. -/
abbrev put3 (w : World) (g : Nat) (x y z : Value) : World := ((w.setCell ⟨g, 0, none⟩ x).setCell ⟨g, 1, none⟩ y).setCell ⟨g, 2, none⟩ z
theorem rop_fin {v : Cx.J} {w wX : World} {o : Dx.Op} {x0 x1 x2 : Value} (hb : Below w.heap.size w wX) (hr : wX.heap[w.heap.size + 1]? = some (.cells #[x0, x1, x2] 64 (0, 0))) (hp : ∀ p, Dx.op v = some p → o = p) {f : Bool} (hf : (Dx.op v).isSome = f) :
    OpPost v w (.returned (.tuple #[.agg #[.bool o.del, .string ⟨o.id.toArray⟩, .string ⟨o.text.toArray⟩], .bool f])) (put3 wX (w.heap.size + 1) (.bool o.del) (.string ⟨o.id.toArray⟩) (.string ⟨o.text.toArray⟩)) ∧ (put3 wX (w.heap.size + 1) (.bool o.del) (.string ⟨o.id.toArray⟩) (.string ⟨o.text.toArray⟩)).heap[w.heap.size + 1]? = some (.cells #[.bool o.del, .string ⟨o.id.toArray⟩, .string ⟨o.text.toArray⟩] 64 (0, 0)) := by
  have hB : w.heap.size ≤ w.heap.size + 1 := Nat.le_succ _
  exact ⟨⟨o, by rw [hf], hp, ((hb.setCell (p := ⟨w.heap.size + 1, 0, none⟩) hB _).setCell (p := ⟨w.heap.size + 1, 1, none⟩) hB _).setCell (p := ⟨w.heap.size + 1, 2, none⟩) hB _⟩, set3_heap hr⟩
theorem decide_beq (a b : List UInt8) : decide (a = b) = (a == b) := by
  by_cases h : a = b
  · rw [decide_eq_true h, beq_iff_eq.2 h]
  · rw [decide_eq_false h, beq_eq_false_iff_ne.2 h]
theorem OpPost.drew {v : Cx.J} {w : World} {e : Ending} {w' : World} (h : OpPost v w e w') : OpPost v w e w'.drew := by
  obtain ⟨o, h1, h2, h3⟩ := h
  exact ⟨o, h1, h2, h3.drew⟩

set_option maxRecDepth 100000 in
set_option maxHeartbeats 4000000 in
theorem rop_no (v : Cx.J) (cs : List Value) (w : World) (ok : Nat → Prop) (hj : JAt w ok v cs) (hs : ¬ (v.kind = 6 ∧ v.kids.length = 1)) :
    Calls Tryz.prog 44 #[.agg cs.toArray] w (OpPost v w) := by
  obtain ⟨V, hV⟩ : ∃ V, V = v := ⟨_, rfl⟩
  have NO := Lib.hid (show Dx.op V = none by rw [hV]; refine op_none ?_; unfold Dx.single; rw [if_neg hs]; rfl)
  cases v with
  | mk k is t ns ks =>
  obtain ⟨a, nc, a', kc, rfl⟩ := hj.shape
  rw [← hV]
  clear hV
  obtain ⟨W, hW⟩ : ∃ W, W = (w.alloc (.cells #[.int .i64 k, .bool is, .string ⟨t.toArray⟩, .slice a ns.length nc, .slice a' ks.length kc] 48)).alloc (.cells #[.bool false, .string ⟨#[]⟩, .string ⟨#[]⟩] 64) := ⟨_, rfl⟩
  have HB0 := Lib.hid (show Below w.heap.size w W by rw [hW]; exact ((Below.refl w.heap.size w).alloc (Nat.le_refl _) _).alloc (by simp) _)
  have BV0 := Lib.hid (show W.heap[w.heap.size]? = some (.cells #[.int .i64 k, .bool is, .string ⟨t.toArray⟩, .slice a ns.length nc, .slice a' ks.length kc] 48 (0, 0)) by
    rw [hW, Below.heap_alloc _ _ _ (by simp)]; exact heap_alloc_new w _)
  have BR0 := Lib.hid (show W.heap[w.heap.size + 1]? = some (.cells #[.bool false, .string ⟨#[]⟩, .string ⟨#[]⟩] 64 (0, 0)) by
    rw [hW]
    have := heap_alloc_new (w.alloc (.cells #[.int .i64 k, .bool is, .string ⟨t.toArray⟩, .slice a ns.length nc, .slice a' ks.length kc] 48)) (.cells #[.bool false, .string ⟨#[]⟩, .string ⟨#[]⟩] 64)
    simpa using this)
  have HW := Lib.hid hW
  replace hs : ¬ (k = 6 ∧ ks.length = 1) := hs
  have hc : (k != 6) = true ∨ (k = 6 ∧ ((ks.length : Int) != 1) = true) := by
    by_cases h : k = 6
    · refine .inr ⟨h, ?_⟩
      have : ks.length ≠ 1 := fun h2 => hs ⟨h, h2⟩
      rw [bne_iff_ne]; omega
    · exact .inl (bne_iff_ne.2 h)
  have FIN := Lib.hid (rop_fin (v := V) (o := ⟨false, [], []⟩) (f := false) HB0.out BR0.out (fun q hq => by rw [NO.out] at hq; cases hq) (by rw [NO.out]; rfl))
  clear hj hW hs
  go_enter Tryz.func44, Tryz.ntmps44
  go_upto_region 1 with fail
  rw [← HW.out]
  clear HW
  obtain ⟨q0, q1, q2, q3, q4, _⟩ := cells5 BV0.out
  obtain ⟨p0, p1, p2, pf⟩ := cells3 BR0.out
  have pf0 := pf 0; have pf1 := pf 1; have pf2 := pf 2
  clear pf
  rcases hc with h1 | ⟨rfl, h1⟩
  all_goals
    go_wp2_with fail
    obtain ⟨fin, zb⟩ := FIN.out
    obtain ⟨z0, z1, z2, _⟩ := cells3 zb
    exact bodyPost_ret (v := .tuple #[.agg #[.bool false, .string ⟨#[]⟩, .string ⟨#[]⟩], .bool false]) (by simp [results, Tryz.results44, go_sem, z0, z1, z2]) rfl fin

set_option maxRecDepth 100000 in
set_option maxHeartbeats 4000000 in
theorem rop_yes (v : Cx.J) (cs : List Value) (w : World) (ok : Nat → Prop) (hj : JAt w ok v cs) (hf : fit maxLen v) (hr : Dx.Rt v) (hs : v.kind = 6 ∧ v.kids.length = 1) :
    Calls Tryz.prog 44 #[.agg cs.toArray] w (OpPost v w) := by
  cases v with
  | mk k is t ns ks =>
  have hj := hj.all
  obtain ⟨a, nc, a', kc, rfl⟩ := hj.shape
  obtain ⟨x, rfl⟩ : ∃ x, ks = [x] := List.length_eq_one_iff.1 hs.2
  obtain ⟨nm, rfl⟩ : ∃ n, ns = [n] := List.length_eq_one_iff.1 (hr.names hs.1)
  obtain rfl : k = 6 := hs.1
  have hsn : singleN (.mk 6 is t [nm] [x]) = nm := rfl
  have hsv : singleV (.mk 6 is t [nm] [x]) = x := rfl
  have hso : (Dx.single (.mk 6 is t [nm] [x])).isSome = true := rfl
  have hfx : fit maxLen x := by have := single_fit hf; rw [hsv] at this; exact this
  obtain ⟨V, hV⟩ : ∃ V, V = Cx.J.mk 6 is t [nm] [x] := ⟨_, rfl⟩
  obtain ⟨X, hX⟩ : ∃ X, X = x := ⟨_, rfl⟩
  obtain ⟨g, o, cap, hv, _, hgl, kb0, kb1, kb2, kb3, hkj, d0, d1, d2, d3, d4⟩ := hj.kid' (i := 0) (k := x) rfl
  injection hv with ha' _ hkc
  subst ha'
  clear hkc
  obtain ⟨g', o', rfl, _, hgl', b0⟩ := hj.names_row.at_ (i := 0) (u := strV nm) rfl
  have b0' : w.cell? ⟨g', o', none⟩ = some (.string ⟨nm.toArray⟩) := b0
  simp only [Nat.zero_mul, Nat.add_zero] at d0 d1 d2 d3 d4
  rw [← hV] at hsn hsv hso
  rw [← hV]
  cases x with
  | mk k2 is2 t2 ns2 ks2 =>
  simp only [Cx.J.kind, Cx.J.is, Cx.J.text, Cx.J.names, Cx.J.kids] at d0 d1 d2 d3 d4 hkj
  rw [← hX] at hsv hfx hkj
  have FX := Lib.hid hfx; have KJ := Lib.hid hkj; have HSN := Lib.hid hsn; have HSV := Lib.hid hsv; have HSO := Lib.hid hso
  obtain ⟨W, hW⟩ : ∃ W, W = (w.alloc (.cells #[.int .i64 6, .bool is, .string ⟨t.toArray⟩, .slice (some ⟨g', o', none⟩) 1 nc, .slice (some ⟨g, o, none⟩) 1 kc] 48)).alloc (.cells #[.bool false, .string ⟨#[]⟩, .string ⟨#[]⟩] 64) := ⟨_, rfl⟩
  have HB0 := Lib.hid (show Below w.heap.size w W by rw [hW]; exact ((Below.refl w.heap.size w).alloc (Nat.le_refl _) _).alloc (by simp) _)
  have BV0 := Lib.hid (show W.heap[w.heap.size]? = some (.cells #[.int .i64 6, .bool is, .string ⟨t.toArray⟩, .slice (some ⟨g', o', none⟩) 1 nc, .slice (some ⟨g, o, none⟩) 1 kc] 48 (0, 0)) by
    rw [hW, Below.heap_alloc _ _ _ (by simp)]; exact heap_alloc_new w _)
  have BR0 := Lib.hid (show W.heap[w.heap.size + 1]? = some (.cells #[.bool false, .string ⟨#[]⟩, .string ⟨#[]⟩] 64 (0, 0)) by
    rw [hW]
    have := heap_alloc_new (w.alloc (.cells #[.int .i64 6, .bool is, .string ⟨t.toArray⟩, .slice (some ⟨g', o', none⟩) 1 nc, .slice (some ⟨g, o, none⟩) 1 kc] 48)) (.cells #[.bool false, .string ⟨#[]⟩, .string ⟨#[]⟩] 64)
    simpa using this)
  have hWs : W.heap.size = w.heap.size + 2 := by rw [hW]; simp
  have HWS := Lib.hid hWs
  have E0 := Lib.hid (And.intro ((HB0.out.cell (p := ⟨g, o, none⟩) hgl).trans d0) (And.intro ((HB0.out.cell (p := ⟨g, o + 1, none⟩) hgl).trans d1) (And.intro ((HB0.out.cell (p := ⟨g, o + 2, none⟩) hgl).trans d2) (And.intro ((HB0.out.cell (p := ⟨g, o + 3, none⟩) hgl).trans d3) ((HB0.out.cell (p := ⟨g, o + 4, none⟩) hgl).trans d4)))))
  have F0 := Lib.hid b0'
  have HGL' := Lib.hid hgl'
  have J0 := Lib.hid (hkj.all.below HB0.out).all
  have HW := Lib.hid hW
  obtain ⟨W2, hW2⟩ : ∃ W2, W2 = W.alloc (.cells #[.int .i64 k2, .bool is2, .string ⟨t2.toArray⟩, .slice kb0 ns2.length kb1, .slice kb2 ks2.length kb3] 48) := ⟨_, rfl⟩
  have b02 : Below W.heap.size W W2 := by rw [hW2]; exact (Below.refl _ _).alloc (Nat.le_refl _) _
  have HB2 := Lib.hid (HB0.out.trans (b02.mono (by omega)))
  have BV2 := Lib.hid ((b02.block _ (heap_lt BV0.out)).trans BV0.out)
  have BR2 := Lib.hid ((b02.block _ (heap_lt BR0.out)).trans BR0.out)
  have BX2 := Lib.hid (show W2.heap[W.heap.size]? = some (.cells #[.int .i64 k2, .bool is2, .string ⟨t2.toArray⟩, .slice kb0 ns2.length kb1, .slice kb2 ks2.length kb3] 48 (0, 0)) by rw [hW2]; exact heap_alloc_new W _)
  have J2 := Lib.hid ((J0.out.below b02).all)
  have hz2 : W.heap.size < W2.heap.size := by rw [hW2]; simp
  have HW2 := Lib.hid hW2
  clear hj hf hr hs hsn hsv hso hfx hkj hX hV hW hWs d0 d1 d2 d3 d4 b0 b0' hgl hgl' b02 hW2
  go_enter Tryz.func44, Tryz.ntmps44
  go_upto_region 1 with fail
  rw [← HW.out]
  clear HW
  obtain ⟨q0, q1, q2, q3, q4, _⟩ := cells5 BV0.out
  obtain ⟨e0, e1, e2, e3, e4⟩ := E0.out
  clear E0
  go_upto_region 4 with fail
  rw [← HW2.out]
  clear HW2 e0 e1 e2 e3 e4 q0 q1 q2 q3 q4 BV0 BR0 HB0 J0
  obtain ⟨q0, q1, q2, q3, q4, _⟩ := cells5 BX2.out
  go_wp2_with fail
  refine (show Calls Tryz.prog 83 #[.agg #[.int .i64 k2, .bool is2, .string ⟨t2.toArray⟩, .slice kb0 ns2.length kb1, .slice kb2 ks2.length kb3], .string ⟨#[105, 100]⟩] _ _ from rtext_calls X [.int .i64 k2, .bool is2, .string ⟨t2.toArray⟩, .slice kb0 ns2.length kb1, .slice kb2 ks2.length kb3] Dx.tId W2 _ J2.out FX.out).mono ?_
  rintro e w3 ⟨rfl, hb⟩
  obtain ⟨i1, hi1⟩ : ∃ i1, i1 = textV X Dx.tId := ⟨_, rfl⟩
  obtain ⟨s1, hs1⟩ : ∃ s, s = (Dx.textOf X Dx.tId).isSome := ⟨_, rfl⟩
  rw [← hi1, ← hs1]
  have HI1 := Lib.hid hi1; have HS1 := Lib.hid hs1
  have hz3 := hb.size
  have HB3 := Lib.hid (HB2.out.trans (hb.mono HB2.out.size))
  have BV3 := Lib.hid ((hb.block _ (heap_lt BV2.out)).trans BV2.out)
  have BR3 := Lib.hid ((hb.block _ (heap_lt BR2.out)).trans BR2.out)
  have BX3 := Lib.hid ((hb.block _ (heap_lt BX2.out)).trans BX2.out)
  have J3 := Lib.hid ((J2.out.below hb).all)
  clear hb hi1 hs1 q0 q1 q2 q3 q4 HB2 BV2 BR2 BX2 J2
  obtain ⟨v0, v1, v2, v3, v4, _⟩ := cells5 BV3.out
  obtain ⟨q0, q1, q2, q3, q4, _⟩ := cells5 BX3.out
  have n0 : w3.cell? ⟨g', o', none⟩ = some (.string ⟨nm.toArray⟩) := (HB3.out.cell (p := ⟨g', o', none⟩) HGL'.out).trans F0.out
  by_cases hdl : nm = Dx.tDelete
  · have cd : (nm == [100, 101, 108, 101, 116, 101]) = true := beq_iff_eq.2 hdl
    have HDL := Lib.hid hdl
    clear hdl
    obtain ⟨W4, hW4⟩ : ∃ W4, W4 = w3.alloc (.cells #[.string ⟨#[105, 100]⟩] 9) := ⟨_, rfl⟩
    have ROW := Lib.hid (show Row W4 (fun b => b < W4.heap.size) (.slice (some ⟨w3.heap.size, 0, none⟩) 1 1) 1 ([Dx.tId].map strV) by
      rw [hW4]
      exact Row.laid (l := [Dx.tId]) (heap_alloc_new w3 _) rfl (by decide))
    have b34 : Below w3.heap.size w3 W4 := by rw [hW4]; exact (Below.refl _ _).alloc (Nat.le_refl _) _
    have HB4 := Lib.hid (HB3.out.trans (b34.mono HB3.out.size))
    have BR4 := Lib.hid ((b34.block _ (heap_lt BR3.out)).trans BR3.out)
    have J4 := Lib.hid ((J3.out.below b34).all)
    have HW4 := Lib.hid hW4
    clear hW4 b34
    go_wp2_with fail
    rw [← HW4.out]
    clear HW4 q0 q1 q2 q3 q4 v0 v1 v2 v3 v4 n0
    refine (show Calls Tryz.prog 40 #[.agg #[.int .i64 k2, .bool is2, .string ⟨t2.toArray⟩, .slice kb0 ns2.length kb1, .slice kb2 ks2.length kb3], .slice (some ⟨w3.heap.size, 0, none⟩) 1 1] _ _ from rOnly_calls X [.int .i64 k2, .bool is2, .string ⟨t2.toArray⟩, .slice kb0 ns2.length kb1, .slice kb2 ks2.length kb3] (.slice (some ⟨w3.heap.size, 0, none⟩) 1 1) [Dx.tId] W4 _ _ J4.out FX.out ROW.out (by decide)).mono ?_
    rintro e w5 ⟨rfl, hb⟩
    obtain ⟨r, hr⟩ : ∃ r, r = Dx.only X [Dx.tId] := ⟨_, rfl⟩
    rw [← hr]
    have HB5 := Lib.hid (HB4.out.trans (hb.mono HB4.out.size))
    have BR5 := Lib.hid ((hb.block _ (heap_lt BR4.out)).trans BR4.out)
    have HR := Lib.hid hr
    clear hb hr
    cases s1 with
    | false =>
      have NO := Lib.hid (show Dx.op V = none from op_none (by rw [HSO.out, HSV.out, ← HS1.out]; rfl))
      obtain ⟨p0, p1, p2, pf⟩ := cells3 BR5.out
      have pf0 := pf 0; have pf1 := pf 1; have pf2 := pf 2
      clear pf
      have FIN := Lib.hid (rop_fin (v := V) (o := ⟨true, i1, []⟩) (f := false) HB5.out BR5.out (fun q hq => by rw [NO.out] at hq; cases hq) (by rw [NO.out]; rfl))
      go_wp2_with fail
      obtain ⟨fin, zb⟩ := FIN.out
      obtain ⟨z0, z1, z2, _⟩ := cells3 zb
      exact bodyPost_ret (v := .tuple #[.agg #[.bool true, .string ⟨i1.toArray⟩, .string ⟨#[]⟩], .bool false]) (by simp [results, Tryz.results44, go_sem, z0, z1, z2]) rfl fin
    | true =>
      have OPV := Lib.hid (show Dx.op V = if r = true then some ⟨true, i1, []⟩ else none by
        rw [op_del (v := V) (by rw [HSO.out, HSV.out, ← HS1.out]; rfl) (by rw [HSN.out, HDL.out]), HSV.out, ← HR.out, ← HI1.out])
      obtain ⟨p0, p1, p2, pf⟩ := cells3 BR5.out
      have pf0 := pf 0; have pf1 := pf 1; have pf2 := pf 2
      clear pf
      have FIN := Lib.hid (rop_fin (v := V) (o := ⟨true, i1, []⟩) (f := r) HB5.out BR5.out (fun q hq => by rw [OPV.out] at hq; cases r <;> simp at hq; exact hq) (by rw [OPV.out]; cases r <;> rfl))
      go_wp2_with fail
      obtain ⟨fin, zb⟩ := FIN.out
      obtain ⟨z0, z1, z2, _⟩ := cells3 zb
      exact bodyPost_ret (v := .tuple #[.agg #[.bool true, .string ⟨i1.toArray⟩, .string ⟨#[]⟩], .bool r]) (by simp [results, Tryz.results44, go_sem, z0, z1, z2]) rfl fin
  · have cd : (nm == [100, 101, 108, 101, 116, 101]) = false := beq_eq_false_iff_ne.2 hdl
    have HDL := Lib.hid hdl
    clear hdl
    go_wp2_with fail
    refine (show Calls Tryz.prog 83 #[.agg #[.int .i64 k2, .bool is2, .string ⟨t2.toArray⟩, .slice kb0 ns2.length kb1, .slice kb2 ks2.length kb3], .string ⟨#[116, 101, 120, 116]⟩] _ _ from rtext_calls X [.int .i64 k2, .bool is2, .string ⟨t2.toArray⟩, .slice kb0 ns2.length kb1, .slice kb2 ks2.length kb3] Dx.tText w3 _ J3.out FX.out).mono ?_
    rintro e w4 ⟨rfl, hb⟩
    obtain ⟨i2, hi2⟩ : ∃ i2, i2 = textV X Dx.tText := ⟨_, rfl⟩
    obtain ⟨s2, hs2⟩ : ∃ s, s = (Dx.textOf X Dx.tText).isSome := ⟨_, rfl⟩
    rw [← hi2, ← hs2]
    have HI2 := Lib.hid hi2; have HS2 := Lib.hid hs2
    have hz4 := hb.size
    have HB4 := Lib.hid (HB3.out.trans (hb.mono HB3.out.size))
    have BV4 := Lib.hid ((hb.block _ (heap_lt BV3.out)).trans BV3.out)
    have BR4 := Lib.hid ((hb.block _ (heap_lt BR3.out)).trans BR3.out)
    have BX4 := Lib.hid ((hb.block _ (heap_lt BX3.out)).trans BX3.out)
    have J4 := Lib.hid ((J3.out.below hb).all)
    clear hb hi2 hs2 q0 q1 q2 q3 q4 v0 v1 v2 v3 v4 n0 HB3 BV3 BR3 BX3 J3
    obtain ⟨q0, q1, q2, q3, q4, _⟩ := cells5 BX4.out
    obtain ⟨W5, hW5⟩ : ∃ W5, W5 = w4.alloc (.cells #[.string ⟨#[105, 100]⟩, .string ⟨#[116, 101, 120, 116]⟩] 9) := ⟨_, rfl⟩
    have ROW := Lib.hid (show Row W5 (fun b => b < W5.heap.size) (.slice (some ⟨w4.heap.size, 0, none⟩) 2 2) 2 ([Dx.tId, Dx.tText].map strV) by
      rw [hW5]
      exact Row.laid (l := [Dx.tId, Dx.tText]) (heap_alloc_new w4 _) rfl (by decide))
    have b45 : Below w4.heap.size w4 W5 := by rw [hW5]; exact (Below.refl _ _).alloc (Nat.le_refl _) _
    have HB5 := Lib.hid (HB4.out.trans (b45.mono HB4.out.size))
    have BV5 := Lib.hid ((b45.block _ (heap_lt BV4.out)).trans BV4.out)
    have BR5 := Lib.hid ((b45.block _ (heap_lt BR4.out)).trans BR4.out)
    have J5 := Lib.hid ((J4.out.below b45).all)
    have HW5 := Lib.hid hW5
    clear hW5 b45
    go_wp2_with fail
    rw [← HW5.out]
    clear HW5 q0 q1 q2 q3 q4 HB4 BV4 BR4 BX4 J4
    refine (show Calls Tryz.prog 40 #[.agg #[.int .i64 k2, .bool is2, .string ⟨t2.toArray⟩, .slice kb0 ns2.length kb1, .slice kb2 ks2.length kb3], .slice (some ⟨w4.heap.size, 0, none⟩) 2 2] _ _ from rOnly_calls X [.int .i64 k2, .bool is2, .string ⟨t2.toArray⟩, .slice kb0 ns2.length kb1, .slice kb2 ks2.length kb3] (.slice (some ⟨w4.heap.size, 0, none⟩) 2 2) [Dx.tId, Dx.tText] W5 _ _ J5.out FX.out ROW.out (by decide)).mono ?_
    rintro e w6 ⟨rfl, hb⟩
    obtain ⟨r, hr⟩ : ∃ r, r = Dx.only X [Dx.tId, Dx.tText] := ⟨_, rfl⟩
    rw [← hr]
    have HB6 := Lib.hid (HB5.out.trans (hb.mono HB5.out.size))
    have BV6 := Lib.hid ((hb.block _ (heap_lt BV5.out)).trans BV5.out)
    have BR6 := Lib.hid ((hb.block _ (heap_lt BR5.out)).trans BR5.out)
    have HR := Lib.hid hr
    clear hb hr ROW J5 HB5 BV5 BR5
    obtain ⟨v0, v1, v2, v3, v4, _⟩ := cells5 BV6.out
    have n0 : w6.cell? ⟨g', o', none⟩ = some (.string ⟨nm.toArray⟩) := (HB6.out.cell (p := ⟨g', o', none⟩) HGL'.out).trans F0.out
    obtain ⟨c, hc⟩ : ∃ c, (nm == [105, 110, 100, 101, 120]) = c := ⟨_, rfl⟩
    have OPV := Lib.hid (show Dx.op V = if (((c && s1) && s2) && r) = true then some ⟨false, i1, i2⟩ else none by
      cases s1 with
      | false => rw [op_none (by rw [HSO.out, HSV.out, ← HS1.out]; rfl)]; simp
      | true =>
        rw [op_ix (v := V) (by rw [HSO.out, HSV.out, ← HS1.out]; rfl) (by rw [HSN.out]; exact HDL.out), HSN.out, HSV.out, ← HS2.out, ← HR.out, ← HI1.out, ← HI2.out]
        rw [show decide (nm = Dx.tIndex) = c by rw [← hc]; exact decide_beq nm [105, 110, 100, 101, 120]]
        cases c <;> cases s2 <;> rfl)
    have FIN0 := Lib.hid (fun (f : Bool) (hf : f = (((c && s1) && s2) && r)) => rop_fin (v := V) (o := ⟨false, i1, i2⟩) (f := f) HB6.out BR6.out (fun q hq => by rw [OPV.out, ← hf] at hq; cases f <;> simp at hq; exact hq) (by rw [OPV.out, ← hf]; cases f <;> rfl))
    clear OPV HR HS1 HS2 HI1 HI2
    obtain ⟨p0, p1, p2, pf⟩ := cells3 BR6.out
    have pf0 := pf 0; have pf1 := pf 1; have pf2 := pf 2
    clear pf
    cases c with
    | false =>
      have FIN := Lib.hid (FIN0.out false rfl)
      go_wp2_with fail
      obtain ⟨fin, zb⟩ := FIN.out
      obtain ⟨z0, z1, z2, _⟩ := cells3 zb
      exact bodyPost_ret (v := .tuple #[.agg #[.bool false, .string ⟨i1.toArray⟩, .string ⟨i2.toArray⟩], .bool false]) (by simp [results, Tryz.results44, go_sem, z0, z1, z2]) rfl fin
    | true =>
    cases s1 with
    | false =>
      have FIN := Lib.hid (FIN0.out false rfl)
      go_wp2_with fail
      obtain ⟨fin, zb⟩ := FIN.out
      obtain ⟨z0, z1, z2, _⟩ := cells3 zb
      exact bodyPost_ret (v := .tuple #[.agg #[.bool false, .string ⟨i1.toArray⟩, .string ⟨i2.toArray⟩], .bool false]) (by simp [results, Tryz.results44, go_sem, z0, z1, z2]) rfl fin
    | true =>
    cases s2 with
    | false =>
      have FIN := Lib.hid (FIN0.out false rfl)
      go_wp2_with fail
      obtain ⟨fin, zb⟩ := FIN.out
      obtain ⟨z0, z1, z2, _⟩ := cells3 zb
      exact bodyPost_ret (v := .tuple #[.agg #[.bool false, .string ⟨i1.toArray⟩, .string ⟨i2.toArray⟩], .bool false]) (by simp [results, Tryz.results44, go_sem, z0, z1, z2]) rfl fin
    | true =>
      have FIN := Lib.hid (FIN0.out r (by cases r <;> rfl))
      go_wp2_with fail
      obtain ⟨fin, zb⟩ := FIN.out
      obtain ⟨z0, z1, z2, _⟩ := cells3 zb
      exact bodyPost_ret (v := .tuple #[.agg #[.bool false, .string ⟨i1.toArray⟩, .string ⟨i2.toArray⟩], .bool r]) (by simp [results, Tryz.results44, go_sem, z0, z1, z2]) rfl fin

theorem rop_calls (v : Cx.J) (cs : List Value) (w : World) (ok : Nat → Prop) (hj : JAt w ok v cs) (hf : fit maxLen v) (hr : Dx.Rt v) :
    Calls Tryz.prog 44 #[.agg cs.toArray] w (OpPost v w) := by
  by_cases hs : v.kind = 6 ∧ v.kids.length = 1
  · exact rop_yes v cs w ok hj hf hr hs
  · exact rop_no v cs w ok hj hs
end Go.Proofs.YtejlddimokmgjaaGreatDoor
