/- WALKS: values. -/
import Derived.Test.YtbdmepilmoomeaaGreatDoorPartsO
namespace Go.Proofs.YtbdmepilmoomeaaGreatDoor
open Go.RowKit

/-- The result's box, at the beginning. -/
theorem box_fresh (w : World) : (w.alloc (.cells zeroJ 26)).heap[w.heap.size]? = some (.cells zeroJ 26 (0, 0)) := heap_alloc_new w _

/-- What a reader of values may lean on, and what its box holds. -/
structure VI (b B : Nat) (s : ByteArray) (w0 : World) (j m : Nat) (w : World) : Prop where
  base : B = w0.heap.size
  rd : Rd b s j m w
  glb : Glb w
  mv : Mv b w0 w
  res : w.heap[B]? = some (.cells zeroJ 26 (0, 0))
theorem VI.fresh {b : Nat} {s : ByteArray} {w : World} {j m : Nat} (h : Rd b s j m w) (hg : Glb w) : VI b w.heap.size s w j m (w.alloc (.cells zeroJ 26)) :=
  ⟨rfl, h.alloc _, hg.alloc _, (Mv.refl b w).alloc _, heap_alloc_new w _⟩
theorem VI.move {b B : Nat} {s : ByteArray} {w0 : World} {j m j' m' : Nat} {w w' : World} (h : VI b B s w0 j m w) (hb : b < B) (hb8 : 8 ≤ b) (k : Mv b w w') (hrd : Rd b s j' m' w') : VI b B s w0 j' m' w' :=
  ⟨h.base, hrd, h.glb.mv k hb8, h.mv.trans k, k.heap h.res (by omega)⟩
/-- A value without names and kids is laid into the box. -/
theorem VI.fin {b B : Nat} {s : ByteArray} {w0 : World} {j m : Nat} {w : World} (h : VI b B s w0 j m w) (hb : b < B) (k : Int) (is : Bool) (t : List UInt8) :
    JAt (put5 w B (.int .i64 k) (.bool is) (strV t) (.slice none 0 0) (.slice none 0 0)) (fun g => w0.heap.size ≤ g) (.mk k is t [] []) [.int .i64 k, .bool is, strV t, .slice none 0 0, .slice none 0 0] ∧
    Rd b s j m (put5 w B (.int .i64 k) (.bool is) (strV t) (.slice none 0 0) (.slice none 0 0)) ∧ Mv b w0 (put5 w B (.int .i64 k) (.bool is) (strV t) (.slice none 0 0) (.slice none 0 0)) := by
  have hB := h.base
  refine ⟨JAt.plain, ?_, put5_mv h.mv (by omega)⟩
  unfold Rd; rw [put5_other (by omega)]; exact h.rd
/-- A value of another's make is laid into the box. -/
theorem VI.fin' {b B : Nat} {s : ByteArray} {w0 wc : World} {j m : Nat} {w : World} {v : Cx.J} {c0 c1 c2 c3 c4 : Value} (h : VI b B s w0 j m w) (hb : b < B) (hc : B < wc.heap.size) (hv : JAt w (fun g => wc.heap.size ≤ g) v [c0, c1, c2, c3, c4]) :
    JAt (put5 w B c0 c1 c2 c3 c4) (fun g => w0.heap.size ≤ g) v [c0, c1, c2, c3, c4] ∧ Rd b s j m (put5 w B c0 c1 c2 c3 c4) ∧ Mv b w0 (put5 w B c0 c1 c2 c3 c4) := by
  have hB := h.base
  refine ⟨JAt.kept (by rw [put5_size]; exact Nat.le_refl _) (fun g hg _ => ⟨put5_other (by omega), by omega⟩) _ _ hv, ?_, put5_mv h.mv (by omega)⟩
  unfold Rd; rw [put5_other (by omega)]; exact h.rd

theorem starts_ix (c : UInt8) : (Cx.starts c = true → 0 ≤ ix [110, 116, 102, 34, 91, 123, 45, 48, 49, 50, 51, 52, 53, 54, 55, 56, 57] c) ∧ (Cx.starts c = false → ix [110, 116, 102, 34, 91, 123, 45, 48, 49, 50, 51, 52, 53, 54, 55, 56, 57] c = -1) := by
  constructor
  · intro h; exact (ix_pos (Cx.starts_mem.1 h)).1
  · intro h; refine ix_neg fun hm => ?_
    rw [Cx.starts_mem.2 hm] at h; cases h

/-- The shapes of a value's five cells. -/
theorem five_shape {w : World} {ok : Nat → Prop} {v : Cx.J} {x0 x1 x2 x3 x4 : Value} (h : JAt w ok v [x0, x1, x2, x3, x4]) :
    ∃ (k : Int) (is : Bool) (t : ByteArray) (a : Option Addr) (n c : Nat) (a' : Option Addr) (n' c' : Nat), x0 = .int .i64 k ∧ x1 = .bool is ∧ x2 = .string t ∧ x3 = .slice a n c ∧ x4 = .slice a' n' c' := by
  cases v with
  | mk k is t ns ks =>
    unfold JAt at h
    obtain ⟨sn, sk, hcs, h1, css, _, h2⟩ := h
    injection hcs with e0 hcs; injection hcs with e1 hcs; injection hcs with e2 hcs; injection hcs with e3 hcs; injection hcs with e4 hcs
    have hs1 : ∃ a n c, sn = .slice a n c := by
      rcases h1 with ⟨_, _, a, c, hv⟩ | ⟨_, g, o, c, hv, _⟩
      · exact ⟨a, 0, c, hv⟩
      · exact ⟨_, _, c, hv⟩
    have hs2 : ∃ a n c, sk = .slice a n c := by
      rcases h2 with ⟨_, _, a, c, hv⟩ | ⟨_, g, o, c, hv, _⟩
      · exact ⟨a, 0, c, hv⟩
      · exact ⟨_, _, c, hv⟩
    obtain ⟨a, n, c, hs1⟩ := hs1
    obtain ⟨a', n', c', hs2⟩ := hs2
    exact ⟨k, is, _, a, n, c, a', n', c', e0, e1, e2, e3.trans hs1, e4.trans hs2⟩

set_option maxRecDepth 100000 in
set_option maxHeartbeats 8000000 in
theorem value_calls (s : ByteArray) (b : Nat) (hb8 : 8 ≤ b) (hs : s.size ≤ 100000) : ∀ (n d : Nat) (w : World) (i m : Nat), d ≤ 20 → Rd b s i m w → Glb w → i ≤ s.size → m ≤ 5000 → s.size < i + n →
    Calls Tryz.prog 24 #[.pointer (some ⟨b, 0, none⟩), .int .i64 d] w (Gives (Cx.value s.data.toList n d i m) (JRet b s w) b w) := by
  have hs' : s.size ≤ maxLen := by unfold maxLen; omega
  intro n
  induction n with
  | zero => intro d w i m _ _ _ _ _ h; omega
  | succ n ih =>
    intro d w i m hd h hg hi hm hn
    have hbl := h.lt
    have IH := Lib.hid ih; clear ih
    obtain ⟨RES, hRES⟩ : ∃ RES, RES = Cx.value s.data.toList (n + 1) d i m := ⟨_, rfl⟩
    rw [← hRES]
    unfold Cx.value at hRES
    simp only at hRES
    have hv := VI.fresh h hg
    have HR := Lib.hid hRES; have HVI := Lib.hid hv
    clear hRES h hg hv
    go_enter Tryz.func24, Tryz.ntmps24
    go_wp2_with fail
    refine (blanks_calls s i m b _ HVI.out.rd hi hs').mono ?_
    rintro e w2 ⟨rfl, k1, k2⟩
    have hv2 := HVI.out.move hbl hb8 k2 k1
    have hlp : Cx.skipB s.data.toList i ≤ s.size := Cx.skipB_len (s := s.data.toList) hi
    have hip := Cx.skipB_le (s := s.data.toList) (i := i)
    have hr := HR.out
    generalize hp : Cx.skipB s.data.toList i = p at hv2 hlp hip hr ⊢
    have V2 := Lib.hid hv2
    have c0 := hv2.rd.c0; have c1 := hv2.rd.c1; have c2 := hv2.rd.c2; have cf := hv2.rd.fr 2
    clear k1 k2 hv2 HR HVI hp
    by_cases hst : Cx.starts (Cx.peek s.data.toList p) = true
    · have hne0 := (Cx.starts_ne hst).2.2
      have hplt : p < s.size := Cx.peek_lt hne0
      rw [if_neg (by simp [hst])] at hr
      have hpne : ((p : Int) == (s.size : Int)) = false := by simp; omega
      have hix : decide (ix [110, 116, 102, 34, 91, 123, 45, 48, 49, 50, 51, 52, 53, 54, 55, 56, 57] (Cx.peek s.data.toList p) < 0) = false := by
        have := (starts_ix _).1 hst; simp; omega
      have HST := Lib.hid hst
      clear hst hne0
      by_cases hmany : 5000 ≤ m
      · rw [if_pos hmany] at hr
        have HRB := Lib.hid hr; clear hr
        have hgt : (5000 : Int) < (m : Int) + 1 := by omega
        go_wp2_with fail
        go_quiet ((go_at_call 46; exact Calls.quiet_of_same (indexByte_calls _ _ _)))
        go_wp2_with (go_at_call 26; refine (give_calls _ _ _ _).mono ?_; rintro e w' ⟨rfl, rfl⟩)
        exact ⟨rfl, Gives.err HRB.out ((V2.out.mv.drewN _).set (.inl rfl) _)⟩
      · rw [if_neg hmany] at hr
        have HRB := Lib.hid hr; clear hr
        have hgt : ¬ (5000 : Int) < (m : Int) + 1 := by omega
        generalize hc : Cx.peek s.data.toList p = c at HRB hix HST ⊢
        have HC := Lib.hid hc; clear hc hmany
        go_wp2_with fail
        go_quiet ((go_at_call 46; exact Calls.quiet_of_same (indexByte_calls _ _ _)))
        obtain ⟨w3, hw3⟩ : ∃ w3, w3 = (w2.drewN nq).setCell ⟨b, 2, none⟩ (.int .i64 ((m : Int) + 1)) := ⟨_, rfl⟩
        have hv3 : VI b w.heap.size s w p (m + 1) w3 := by
          rw [hw3]
          exact V2.out.move hbl hb8 (((Mv.refl b w2).drewN nq).set (.inl rfl) _) ((V2.out.rd.drewN nq).set2 _)
        have V3 := Lib.hid hv3; have HW3 := Lib.hid hw3
        clear hv3 hw3 V2
        clear hpne
        have HNC : Hid (c.toNat < 256) := Lib.hid c.toNat_lt
        by_cases h110 : c = 110
        · subst h110
          have hr := HRB.out
          rw [if_pos rfl] at hr
          have HRC := Lib.hid hr
          clear hr HRB
          go_wp2_with fail
          rw [← HW3.out]
          refine (word_calls s p ((m + 1 : Nat) : Int) b ⟨#[110,117,108,108]⟩ _ V3.out.rd hlp hs' (by decide) (by decide)).mono ?_
          intro e w4 hgv
          cases hw : Cx.word s.data.toList [110,117,108,108] p with
          | error x =>
            obtain ⟨rfl, k4⟩ := hgv.of_err hw
            have hr := HRC.out
            rw [hw] at hr
            exact ⟨rfl, Gives.err hr (V3.out.mv.trans k4)⟩
          | ok j =>
            obtain ⟨⟨rfl, k4⟩, k5⟩ := hgv.of_ok hw
            have hr := HRC.out
            rw [hw] at hr
            have V4 := Lib.hid (V3.out.move hbl hb8 k5 k4)
            have HRD := Lib.hid hr
            clear hr hw hgv k4 k5 HRC V3 HW3
            obtain ⟨r0, r1, r2, r3, r4, rf⟩ := cells5 V4.out.res
            have rf0 := rf 0; have rf1 := rf 1; have rf2 := rf 2; have rf3 := rf 3; have rf4 := rf 4
            obtain ⟨z0, z1, z2, z3, z4, _⟩ := cells5 (put5_heap (a := .int .i64 1) (b := .bool false) (c := .string ⟨#[]⟩) (d := .slice none 0 0) (e := .slice none 0 0) V4.out.res)
            have FIN := Lib.hid (V4.out.fin hbl 1 false [])
            have Z := Lib.hid (And.intro z0 (And.intro z1 (And.intro z2 (And.intro z3 z4))))
            clear z0 z1 z2 z3 z4 rf
            go_wp2_with fail
            obtain ⟨z0, z1, z2, z3, z4⟩ := Z.out
            refine bodyPost_ret (v := .agg #[.int .i64 1, .bool false, .string ⟨#[]⟩, .slice none 0 0, .slice none 0 0]) (by simp [results, Tryz.results24, go_sem, z0, z1, z2, z3, z4]) rfl ?_
            obtain ⟨f1, f2, f3⟩ := FIN.out
            exact Gives.ok HRD.out f3 ⟨_, rfl, f1, f2⟩
        by_cases h116 : c = 116
        · subst h116
          have hr := HRB.out
          rw [if_neg (by decide)] at hr
          have HRB := Lib.hid hr
          clear hr
          have hr := HRB.out
          rw [if_pos rfl] at hr
          have HRC := Lib.hid hr
          clear hr HRB
          go_wp2_with fail
          rw [← HW3.out]
          refine (word_calls s p ((m + 1 : Nat) : Int) b ⟨#[116,114,117,101]⟩ _ V3.out.rd hlp hs' (by decide) (by decide)).mono ?_
          intro e w4 hgv
          cases hw : Cx.word s.data.toList [116,114,117,101] p with
          | error x =>
            obtain ⟨rfl, k4⟩ := hgv.of_err hw
            have hr := HRC.out
            rw [hw] at hr
            exact ⟨rfl, Gives.err hr (V3.out.mv.trans k4)⟩
          | ok j =>
            obtain ⟨⟨rfl, k4⟩, k5⟩ := hgv.of_ok hw
            have hr := HRC.out
            rw [hw] at hr
            have V4 := Lib.hid (V3.out.move hbl hb8 k5 k4)
            have HRD := Lib.hid hr
            clear hr hw hgv k4 k5 HRC V3 HW3
            obtain ⟨r0, r1, r2, r3, r4, rf⟩ := cells5 V4.out.res
            have rf0 := rf 0; have rf1 := rf 1; have rf2 := rf 2; have rf3 := rf 3; have rf4 := rf 4
            obtain ⟨z0, z1, z2, z3, z4, _⟩ := cells5 (put5_heap (a := .int .i64 2) (b := .bool true) (c := .string ⟨#[]⟩) (d := .slice none 0 0) (e := .slice none 0 0) V4.out.res)
            have FIN := Lib.hid (V4.out.fin hbl 2 true [])
            have Z := Lib.hid (And.intro z0 (And.intro z1 (And.intro z2 (And.intro z3 z4))))
            clear z0 z1 z2 z3 z4 rf
            go_wp2_with fail
            obtain ⟨z0, z1, z2, z3, z4⟩ := Z.out
            refine bodyPost_ret (v := .agg #[.int .i64 2, .bool true, .string ⟨#[]⟩, .slice none 0 0, .slice none 0 0]) (by simp [results, Tryz.results24, go_sem, z0, z1, z2, z3, z4]) rfl ?_
            obtain ⟨f1, f2, f3⟩ := FIN.out
            exact Gives.ok HRD.out f3 ⟨_, rfl, f1, f2⟩
        by_cases h102 : c = 102
        · subst h102
          have hr := HRB.out
          rw [if_neg (by decide), if_neg (by decide)] at hr
          have HRB := Lib.hid hr
          clear hr
          have hr := HRB.out
          rw [if_pos rfl] at hr
          have HRC := Lib.hid hr
          clear hr HRB
          go_wp2_with fail
          rw [← HW3.out]
          refine (word_calls s p ((m + 1 : Nat) : Int) b ⟨#[102,97,108,115,101]⟩ _ V3.out.rd hlp hs' (by decide) (by decide)).mono ?_
          intro e w4 hgv
          cases hw : Cx.word s.data.toList [102,97,108,115,101] p with
          | error x =>
            obtain ⟨rfl, k4⟩ := hgv.of_err hw
            have hr := HRC.out
            rw [hw] at hr
            exact ⟨rfl, Gives.err hr (V3.out.mv.trans k4)⟩
          | ok j =>
            obtain ⟨⟨rfl, k4⟩, k5⟩ := hgv.of_ok hw
            have hr := HRC.out
            rw [hw] at hr
            have V4 := Lib.hid (V3.out.move hbl hb8 k5 k4)
            have HRD := Lib.hid hr
            clear hr hw hgv k4 k5 HRC V3 HW3
            obtain ⟨r0, r1, r2, r3, r4, rf⟩ := cells5 V4.out.res
            have rf0 := rf 0; have rf1 := rf 1; have rf2 := rf 2; have rf3 := rf 3; have rf4 := rf 4
            obtain ⟨z0, z1, z2, z3, z4, _⟩ := cells5 (put5_heap (a := .int .i64 2) (b := .bool false) (c := .string ⟨#[]⟩) (d := .slice none 0 0) (e := .slice none 0 0) V4.out.res)
            have FIN := Lib.hid (V4.out.fin hbl 2 false [])
            have Z := Lib.hid (And.intro z0 (And.intro z1 (And.intro z2 (And.intro z3 z4))))
            clear z0 z1 z2 z3 z4 rf
            go_wp2_with fail
            obtain ⟨z0, z1, z2, z3, z4⟩ := Z.out
            refine bodyPost_ret (v := .agg #[.int .i64 2, .bool false, .string ⟨#[]⟩, .slice none 0 0, .slice none 0 0]) (by simp [results, Tryz.results24, go_sem, z0, z1, z2, z3, z4]) rfl ?_
            obtain ⟨f1, f2, f3⟩ := FIN.out
            exact Gives.ok HRD.out f3 ⟨_, rfl, f1, f2⟩
        have hr := HRB.out
        rw [if_neg h110, if_neg h116, if_neg h102] at hr
        have HRC := Lib.hid hr
        clear hr HRB
        have ne : ∀ k : UInt8, c ≠ k → ((c.toNat : Int) == (k.toNat : Int)) = false := fun k hk => by
          rw [beq_eq_false_iff_ne]; intro e; exact hk (UInt8.toNat_inj.1 (by omega))
        have n110 : ((c.toNat : Int) == 110) = false := ne 110 h110
        have n116 : ((c.toNat : Int) == 116) = false := ne 116 h116
        have n102 : ((c.toNat : Int) == 102) = false := ne 102 h102
        have NE := Lib.hid ne
        clear ne h110 h116 h102
        by_cases h34 : c = 34
        · subst h34
          have hr := HRC.out
          rw [if_pos rfl] at hr
          have HRD0 := Lib.hid hr
          clear hr HRC n110 n116 n102
          go_wp2_with fail
          rw [← HW3.out]
          refine (text_calls s p ((m + 1 : Nat) : Int) b _ V3.out.rd V3.out.glb hb8 hlp hs).mono ?_
          intro e w4 hgv
          cases hw : Cx.text s.data.toList p with
          | error x =>
            obtain ⟨rfl, k4⟩ := hgv.of_err hw
            have hr := HRD0.out
            rw [hw] at hr
            exact ⟨rfl, Gives.err hr (V3.out.mv.trans k4)⟩
          | ok a =>
            obtain ⟨t, j⟩ := a
            obtain ⟨⟨rfl, k4⟩, k5⟩ := hgv.of_ok hw
            have hr := HRD0.out
            rw [hw] at hr
            have V4 := Lib.hid (V3.out.move hbl hb8 k5 k4)
            have HRD := Lib.hid hr
            clear hr hw hgv k4 k5 HRD0 V3 HW3
            obtain ⟨r0, r1, r2, r3, r4, rf⟩ := cells5 V4.out.res
            have rf0 := rf 0; have rf1 := rf 1; have rf2 := rf 2; have rf3 := rf 3; have rf4 := rf 4
            obtain ⟨z0, z1, z2, z3, z4, _⟩ := cells5 (put5_heap (a := .int .i64 4) (b := .bool false) (c := .string ⟨t.toArray⟩) (d := .slice none 0 0) (e := .slice none 0 0) V4.out.res)
            have FIN := Lib.hid (V4.out.fin hbl 4 false t)
            have Z := Lib.hid (And.intro z0 (And.intro z1 (And.intro z2 (And.intro z3 z4))))
            clear z0 z1 z2 z3 z4 rf
            go_wp2_with fail
            obtain ⟨z0, z1, z2, z3, z4⟩ := Z.out
            refine bodyPost_ret (v := .agg #[.int .i64 4, .bool false, .string ⟨t.toArray⟩, .slice none 0 0, .slice none 0 0]) (by simp [results, Tryz.results24, go_sem, z0, z1, z2, z3, z4]) rfl ?_
            obtain ⟨f1, f2, f3⟩ := FIN.out
            exact Gives.ok HRD.out f3 ⟨_, rfl, f1, f2⟩
        have n34 : ((c.toNat : Int) == 34) = false := NE.out 34 h34
        have hr := HRC.out
        rw [if_neg h34] at hr
        have HRD0 := Lib.hid hr
        clear hr HRC h34
        by_cases hopen : c = 91 ∨ c = 123
        · have hr := HRD0.out
          rw [if_pos hopen] at hr
          have HRE := Lib.hid hr
          clear hr HRD0
          by_cases hdd : d = 20
          · have hr := HRE.out
            rw [if_pos hdd] at hr
            have HRF := Lib.hid hr
            subst hdd
            have q1 := V3.out.rd.c1
            rw [HW3.out] at q1
            clear hr HRE
            rcases hopen with rfl | rfl
            all_goals
              go_wp2_with (go_at_call 26; refine (give_calls _ _ _ _).mono ?_; rintro e w' ⟨rfl, rfl⟩)
              exact ⟨rfl, Gives.err HRF.out (by rw [← HW3.out]; exact V3.out.mv)⟩
          · have hr := HRE.out
            rw [if_neg hdd] at hr
            have HRF := Lib.hid hr
            have hd20 : d < 20 := by omega
            have hddi : ((d : Int) == 20) = false := by simp; omega
            have HFI := Lib.hid (Cx.value_fine s.data.toList n (d + 1) (by omega))
            have hval : ∀ (w : World) (i' m : Nat), p < i' → Rd b s i' m w → Glb w → i' ≤ s.size → m ≤ 5000 → Calls Tryz.prog 24 #[.pointer (some ⟨b, 0, none⟩), .int .i64 ((d : Int) + 1)] w (Gives (Cx.value s.data.toList n (d + 1) i' m) (JRet b s w) b w) := by
              intro w' i' m' h1 h2 h3 h4 h5
              have := IH.out (d + 1) w' i' m' (by omega) h2 h3 h4 h5 (by omega)
              rw [show ((d + 1 : Nat) : Int) = (d : Int) + 1 by omega] at this
              exact this
            have HVA := Lib.hid hval
            clear hr HRE hdd hval IH
            rcases hopen with rfl | rfl
            · go_wp2_with fail
              rw [← HW3.out]
              refine (show Calls Tryz.prog 51 #[.pointer (some ⟨b, 0, none⟩), .int .u8 91, .int .i64 ((d : Int) + 1)] w3 _ from parts_list s p (m + 1) b ((d : Int) + 1) _ d HFI.out HVA.out w3 V3.out.rd V3.out.glb hb8 hplt (by omega) hs).mono ?_
              intro e w4 hgv
              cases hw : Cx.group (fun i m => Cx.value s.data.toList n (d + 1) i m) s.data.toList false p (m + 1) with
              | error x =>
                obtain ⟨rfl, k4⟩ := hgv.of_err hw
                have hr := HRF.out
                simp only [show decide ((91 : UInt8) = 123) = false from rfl] at hr
                rw [hw] at hr
                exact ⟨rfl, Gives.err hr (V3.out.mv.trans k4)⟩
              | ok a =>
                obtain ⟨v, j, m4⟩ := a
                obtain ⟨⟨cs, rfl, kj, k4⟩, k5⟩ := hgv.of_ok hw
                have hr := HRF.out
                simp only [show decide ((91 : UInt8) = 123) = false from rfl] at hr
                rw [hw] at hr
                obtain ⟨x0, x1, x2, x3, x4, rfl⟩ := five kj.length
                have V4 := Lib.hid (V3.out.move hbl hb8 k5 k4)
                have HRD := Lib.hid hr
                have hB3 : w.heap.size < w3.heap.size := heap_lt V3.out.res
                obtain ⟨r0, r1, r2, r3, r4, rf⟩ := cells5 V4.out.res
                have rf0 := rf 0; have rf1 := rf 1; have rf2 := rf 2; have rf3 := rf 3; have rf4 := rf 4
                obtain ⟨z0, z1, z2, z3, z4, _⟩ := cells5 (put5_heap (a := x0) (b := x1) (c := x2) (d := x3) (e := x4) V4.out.res)
                have FIN := Lib.hid (V4.out.fin' hbl hB3 kj)
                have Z := Lib.hid (And.intro z0 (And.intro z1 (And.intro z2 (And.intro z3 z4))))
                obtain ⟨k0, k1, k2, ka, kn, kc, la, ln, lc, rfl, rfl, rfl, rfl, rfl⟩ := five_shape kj
                clear z0 z1 z2 z3 z4 rf hr hw hgv k4 k5 HRF V3 HW3 kj
                go_wp2_with fail
                obtain ⟨z0, z1, z2, z3, z4⟩ := Z.out
                refine bodyPost_ret (v := .agg #[.int .i64 k0, .bool k1, .string k2, .slice ka kn kc, .slice la ln lc]) (by simp [results, Tryz.results24, go_sem, z0, z1, z2, z3, z4]) rfl ?_
                obtain ⟨f1, f2, f3⟩ := FIN.out
                exact Gives.ok HRD.out f3 ⟨_, rfl, f1, f2⟩
            · go_wp2_with fail
              rw [← HW3.out]
              refine (show Calls Tryz.prog 51 #[.pointer (some ⟨b, 0, none⟩), .int .u8 123, .int .i64 ((d : Int) + 1)] w3 _ from parts_object s p (m + 1) b ((d : Int) + 1) _ d HFI.out HVA.out w3 V3.out.rd V3.out.glb hb8 hplt (by omega) hs).mono ?_
              intro e w4 hgv
              cases hw : Cx.group (fun i m => Cx.value s.data.toList n (d + 1) i m) s.data.toList true p (m + 1) with
              | error x =>
                obtain ⟨rfl, k4⟩ := hgv.of_err hw
                have hr := HRF.out
                rw [show decide True = true from rfl, hw] at hr
                exact ⟨rfl, Gives.err hr (V3.out.mv.trans k4)⟩
              | ok a =>
                obtain ⟨v, j, m4⟩ := a
                obtain ⟨⟨cs, rfl, kj, k4⟩, k5⟩ := hgv.of_ok hw
                have hr := HRF.out
                rw [show decide True = true from rfl, hw] at hr
                obtain ⟨x0, x1, x2, x3, x4, rfl⟩ := five kj.length
                have V4 := Lib.hid (V3.out.move hbl hb8 k5 k4)
                have HRD := Lib.hid hr
                have hB3 : w.heap.size < w3.heap.size := heap_lt V3.out.res
                obtain ⟨r0, r1, r2, r3, r4, rf⟩ := cells5 V4.out.res
                have rf0 := rf 0; have rf1 := rf 1; have rf2 := rf 2; have rf3 := rf 3; have rf4 := rf 4
                obtain ⟨z0, z1, z2, z3, z4, _⟩ := cells5 (put5_heap (a := x0) (b := x1) (c := x2) (d := x3) (e := x4) V4.out.res)
                have FIN := Lib.hid (V4.out.fin' hbl hB3 kj)
                have Z := Lib.hid (And.intro z0 (And.intro z1 (And.intro z2 (And.intro z3 z4))))
                obtain ⟨k0, k1, k2, ka, kn, kc, la, ln, lc, rfl, rfl, rfl, rfl, rfl⟩ := five_shape kj
                clear z0 z1 z2 z3 z4 rf hr hw hgv k4 k5 HRF V3 HW3 kj
                go_wp2_with fail
                obtain ⟨z0, z1, z2, z3, z4⟩ := Z.out
                refine bodyPost_ret (v := .agg #[.int .i64 k0, .bool k1, .string k2, .slice ka kn kc, .slice la ln lc]) (by simp [results, Tryz.results24, go_sem, z0, z1, z2, z3, z4]) rfl ?_
                obtain ⟨f1, f2, f3⟩ := FIN.out
                exact Gives.ok HRD.out f3 ⟨_, rfl, f1, f2⟩
        · have n91 : ((c.toNat : Int) == 91) = false := NE.out 91 (fun e => hopen (.inl e))
          have n123 : ((c.toNat : Int) == 123) = false := NE.out 123 (fun e => hopen (.inr e))
          have hr := HRD0.out
          rw [if_neg hopen] at hr
          have HRE := Lib.hid hr
          clear hr HRD0 hopen
          go_wp2_with fail
          rw [← HW3.out]
          refine (number_calls s p ((m + 1 : Nat) : Int) b _ V3.out.rd hlp hs').mono ?_
          intro e w4 hgv
          cases hw : Cx.number s.data.toList p with
          | error x =>
            obtain ⟨rfl, k4⟩ := hgv.of_err hw
            have hr := HRE.out
            rw [hw] at hr
            exact ⟨rfl, Gives.err hr (V3.out.mv.trans k4)⟩
          | ok j =>
            obtain ⟨⟨rfl, k4⟩, k5⟩ := hgv.of_ok hw
            have hr := HRE.out
            rw [hw] at hr
            simp only at hr
            generalize (s.data.toList.drop p).take (j - p) = t at hr ⊢
            have V4 := Lib.hid (V3.out.move hbl hb8 k5 k4)
            have HRD := Lib.hid hr
            clear hr hw hgv k4 k5 HRE V3 HW3
            obtain ⟨r0, r1, r2, r3, r4, rf⟩ := cells5 V4.out.res
            have rf0 := rf 0; have rf1 := rf 1; have rf2 := rf 2; have rf3 := rf 3; have rf4 := rf 4
            obtain ⟨z0, z1, z2, z3, z4, _⟩ := cells5 (put5_heap (a := .int .i64 3) (b := .bool false) (c := .string ⟨t.toArray⟩) (d := .slice none 0 0) (e := .slice none 0 0) V4.out.res)
            have FIN := Lib.hid (V4.out.fin hbl 3 false t)
            have Z := Lib.hid (And.intro z0 (And.intro z1 (And.intro z2 (And.intro z3 z4))))
            clear z0 z1 z2 z3 z4 rf
            go_wp2_with fail
            obtain ⟨z0, z1, z2, z3, z4⟩ := Z.out
            refine bodyPost_ret (v := .agg #[.int .i64 3, .bool false, .string ⟨t.toArray⟩, .slice none 0 0, .slice none 0 0]) (by simp [results, Tryz.results24, go_sem, z0, z1, z2, z3, z4]) rfl ?_
            obtain ⟨f1, f2, f3⟩ := FIN.out
            exact Gives.ok HRD.out f3 ⟨_, rfl, f1, f2⟩
    · have hst : Cx.starts (Cx.peek s.data.toList p) = false := by simpa using hst
      rw [if_pos (by simpa using hst)] at hr
      have HRB := Lib.hid hr; clear hr
      rcases Nat.lt_or_ge p s.size with hlt | hge
      · have hpne : ((p : Int) == (s.size : Int)) = false := by simp; omega
        have hix : decide (ix [110, 116, 102, 34, 91, 123, 45, 48, 49, 50, 51, 52, 53, 54, 55, 56, 57] (Cx.peek s.data.toList p) < 0) = true := by
          rw [(starts_ix _).2 hst]; rfl
        clear hst
        go_wp2_with fail
        go_quiet ((go_at_call 46; exact Calls.quiet_of_same (indexByte_calls _ _ _)))
        go_wp2_with (go_at_call 26; refine (give_calls _ _ _ _).mono ?_; rintro e w' ⟨rfl, rfl⟩)
        exact ⟨rfl, Gives.err HRB.out (V2.out.mv.drewN _)⟩
      · have hpe : p = s.size := by omega
        subst hpe
        have hpne : ((s.size : Int) == (s.size : Int)) = true := by simp
        clear hst
        go_wp2_with fail
        go_quiet (fail)
        go_wp2_with (go_at_call 26; refine (give_calls _ _ _ _).mono ?_; rintro e w' ⟨rfl, rfl⟩)
        exact ⟨rfl, Gives.err HRB.out (V2.out.mv.drewN _)⟩
end Go.Proofs.YtbdmepilmoomeaaGreatDoor
