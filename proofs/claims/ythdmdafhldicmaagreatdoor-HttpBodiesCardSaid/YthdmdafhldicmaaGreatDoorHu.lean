/- WALKS: request. -/
import Derived.Test.YthdmdafhldicmaaGreatDoorHs
import Derived.Test.YthdmdafhldicmaaGreatDoorHu0
namespace Go.Proofs.YthdmdafhldicmaaGreatDoor
open Go.RowKit Go.Maps Go.WideMaps

set_option maxRecDepth 100000 in
set_option maxHeartbeats 4000000 in
theorem request_calls (s : ByteArray) (b : Nat) (w : World) (h : Hr b s 0 w) (hs : s.size ≤ 90000) (hg : Glb w) (h8 : 8 ≤ b) :
    Calls Tryz.prog 24 #[.pointer (some ⟨b, 0, none⟩)] w (ReqPost b s (Hx.read s.data.toList) w) := by
  have hbw := h.lt
  have hsl : s.data.toList.length = s.size := rfl
  obtain ⟨R, hR⟩ : ∃ R, R = Hx.read s.data.toList := ⟨_, rfl⟩
  rw [← hR]
  unfold Hx.read at hR
  obtain ⟨TOP, hT⟩ : ∃ TOP, TOP = Hx.topN s.data.toList (s.data.toList.length + 1) 0 := ⟨_, rfl⟩
  rw [← hT] at hR
  rw [hsl] at hT hR
  have HR := Lib.hid hR
  have HT : Hid (TOP = if ([] : Hx.Bytes) = [] ∧ 200 = 200 then Hx.topN s.data.toList (s.size + 1) 0 else ([], 200, 0)) := Lib.hid (by rw [if_pos ⟨rfl, rfl⟩]; exact hT)
  have HH := Lib.hid (h.alloc (.cells #[.string ⟨#[]⟩, .string ⟨#[]⟩, .string ⟨#[]⟩, .bool false] 24))
  have HM := Lib.hid ((Mv.refl b w).alloc (.cells #[.string ⟨#[]⟩, .string ⟨#[]⟩, .string ⟨#[]⟩, .bool false] 24))
  have HQ := Lib.hid (QAt.new w)
  have HG := Lib.hid hg
  obtain ⟨G, hG⟩ : ∃ G, G = w.heap.size := ⟨_, rfl⟩
  have hGb : G ≠ b := by omega
  have hGw : w.heap.size ≤ G := by omega
  clear h hR hg hT
  go_enter Tryz.func24, Tryz.ntmps24
  rw [← hG] at HQ
  go_upto_region 2 with fail
  rw [← hG]
  clear hG
  go_loopg [4, 5] (s.size + 1) (fun q y z wr => ∃ (t : Hx.Bytes) (st j : Nat), y = .string ⟨t.toArray⟩ ∧ z = .int .i64 st ∧ j ≤ s.size ∧ (t = [] ∧ st = 200 → s.size < j + q) ∧ (t ≠ [] → st = 200) ∧ t.length ≤ s.size ∧ Hid (TOP = if t = [] ∧ st = 200 then Hx.topN s.data.toList q j else (t, st, j)) ∧ Hid (QAt G [] [] [] false wr) ∧ Hid (Hr b s j wr) ∧ Hid (Mv b w wr))
  case atStart => exact ⟨[], 200, 0, rfl, rfl, Nat.zero_le _, fun _ => (show s.size < 0 + (s.size + 1) by omega), fun h => absurd rfl h, Nat.zero_le _, HT, HQ, HH, HM⟩
  case round =>
    clear HT HQ HH HM
    obtain ⟨t, st, j, rfl, rfl, hj, hq, ht200, htl, HT, HQ, HH, HM⟩ := hrel
    by_cases hgo : t = [] ∧ st = 200
    · obtain ⟨rfl, rfl⟩ := hgo
      have hq := hq ⟨rfl, rfl⟩
      obtain ⟨q, rfl⟩ : ∃ q, gk = q + 1 := ⟨gk - 1, by omega⟩
      have ht := HT.out
      rw [if_pos ⟨rfl, rfl⟩, Hx.topN_succ] at ht
      have hle := Hx.line_le (s := s.data.toList) (i := j) (most := 2000) hj
      have hlt := fun h => Hx.line_lt (s := s.data.toList) (i := j) (most := 2000) h
      have hl200 := fun h => Hx.line_text (s := s.data.toList) (i := j) (most := 2000) h
      have htl2 := Hx.line_text_le s.data.toList j 2000
      rw [hsl] at hle htl2
      obtain ⟨L, hL⟩ : ∃ L, L = Hx.line s.data.toList j 2000 := ⟨_, rfl⟩
      rw [← hL] at ht hle htl2
      simp only [← hL] at hlt hl200
      have HL := Lib.hid hL; have HT2 := Lib.hid ht; have HLT := Lib.hid (And.intro hlt hl200)
      have HG2 := Lib.hid (HG.out.mv HM.out h8)
      clear hL ht HT htl ht200 hlt hl200
      go_wp2_with fail
      refine (line_calls s j 2000 b _ HH.out hj (by omega) (by omega) HG2.out).mono ?_
      rintro e w2 ⟨rfl, k1, k2⟩
      rw [← HL.out] at k1 ⊢
      obtain ⟨t, st, j2⟩ := L
      simp only at hle htl2 k1 ⊢
      have H2 := Lib.hid k1; have M2 := Lib.hid (HM.out.trans k2); have Q2 := Lib.hid (HQ.out.mv k2 hGb)
      have HT3 : Hid (TOP = if t = [] ∧ st = 200 then Hx.topN s.data.toList q j2 else (t, st, j2)) := HT2
      have HLT2 : Hid ((st = 200 → j < j2) ∧ (st ≠ 200 → t = [])) := HLT
      clear k1 k2 HL HT2 HH HQ HM HG2 HLT
      go_wp2_with fail
      go_roundg q
      case measure => omega
      case rel => exact ⟨t, st, j2, rfl, rfl, hle.2, fun h => by have := HLT2.out.1 h.2; omega, fun h => by by_cases h2 : st = 200; exact h2; exact absurd (HLT2.out.2 h2) h, htl2, HT3, Q2, H2, M2⟩
    have ht := HT.out
    rw [if_neg hgo] at ht
    subst ht
    have hr := HR.out
    simp only at hr
    obtain ⟨q0, q1, q2, q3, qf⟩ := HQ.out.cells
    have qf0 := qf 0; have qf1 := qf 1; have qf2 := qf 2; have qf3 := qf 3
    clear HT HR qf
    by_cases ht0 : t = []
    · subst ht0
      have h2 : st ≠ 200 := fun h => hgo ⟨rfl, h⟩
      have n2 : ((st : Int) == 200) = false := by rw [beq_eq_false_iff_ne]; omega
      have n3 : ((st : Int) != 200) = true := by rw [bne_iff_ne]; omega
      rw [if_pos h2] at hr
      subst hr
      have N2 := Lib.hid h2
      clear hgo h2 ht200 hq
      have Z := Lib.hid (HQ.out.put [] [] [] false)
      go_wp2_with fail
      obtain ⟨z0, z1, z2, z3, _⟩ := Z.out.cells
      (try simp only [Exit.inBlock, Exit.then])
      refine bodyPost_ret (v := .tuple #[qv [] [] [] false, .int .i64 st]) (by simp [results, Tryz.results24, go_sem, z0, z1, z2, z3, qv]) rfl ?_
      exact ⟨HM.out.put4 hGw _ _ _ _, [], [], [], false, rfl, fun h => absurd h N2.out⟩
    obtain rfl := ht200 ht0
    rw [if_neg (fun h => h rfl)] at hr
    have nt : (t == []) = false := by simpa using ht0
    have HR := Lib.hid hr
    have HG2 := Lib.hid (HG.out.mv HM.out h8)
    clear hr hq ht200 hgo ht0
    go_wp2_with fail
    refine (first_calls t _ HG2.out (by omega)).mono ?_
    rintro e w1 ⟨k, m, p, rfl, hmp⟩
    have H1 := Lib.hid (HH.out.below k); have M1 := Lib.hid (HM.out.below k); have Q1 := Lib.hid (HQ.out.below k)
    have hGw1 : G < (w1 : World).heap.size := heap_lt Q1.out
    obtain ⟨g, hg⟩ : ∃ g, g = w1.heap.size := ⟨_, rfl⟩
    have hgG : G ≠ g := by omega
    have hgb : g ≠ b := by have := M1.out.size; omega
    have hgw : w.heap.size ≤ g := by omega
    clear k HH HM HQ HG2 qf0 qf1 qf2 qf3 q0 q1 q2 q3
    obtain ⟨w5, hw5⟩ : ∃ w5, w5 = w1.alloc (.cells #[.string ⟨m.toArray⟩, .string ⟨p.toArray⟩, .string ⟨#[]⟩, .bool false] 24) := ⟨_, rfl⟩
    have H5 : Hid (Hr b s j w5) := Lib.hid (by rw [hw5]; exact H1.out.alloc _)
    have M5 : Hid (Mv b w w5) := Lib.hid (by rw [hw5]; exact M1.out.alloc _)
    have Q5 : Hid (QAt G [] [] [] false w5) := Lib.hid (by rw [hw5]; unfold QAt; rw [Below.heap_alloc _ _ _ hGw1]; exact Q1.out)
    have P5 : Hid (QAt g m p [] false w5) := Lib.hid (by rw [hw5, hg]; exact heap_alloc_new w1 _)
    clear H1 M1 Q1
    go_upto_region 7 with fail
    rw [← hg, ← hw5]
    clear hw5 hg hGw1
    obtain ⟨a0, a1, a2, a3, af⟩ := Q5.out.cells
    have af0 := af 0; have af1 := af 1; have af2 := af 2; have af3 := af 3
    obtain ⟨b0, b1, b2, b3, bf⟩ := P5.out.cells
    clear af bf
    cases hfi : Hx.first t with
    | none =>
      have hr := HR.out
      rw [hfi] at hr
      simp only at hr
      subst hr
      clear hfi HR hmp
      have Z := Lib.hid (Q5.out.put m p [] false)
      go_wp2_with fail
      obtain ⟨z0, z1, z2, z3, _⟩ := Z.out.cells
      (try simp only [Exit.inBlock, Exit.then])
      refine bodyPost_ret (v := .tuple #[qv m p [] false, .int .i64 400]) (by simp [results, Tryz.results24, go_sem, z0, z1, z2, z3, qv]) rfl ?_
      exact ⟨M5.out.put4 hGw _ _ _ _, m, p, [], false, rfl, fun h => by simp only at h; omega⟩
    | some mp =>
    obtain rfl := hmp mp hfi
    obtain ⟨FR, hFR⟩ : ∃ FR, FR = Hx.fields s.data.toList j 2000 := ⟨_, rfl⟩
    have hr := HR.out
    rw [hfi] at hr
    simp only at hr
    rw [← hFR] at hr
    have FC := Lib.hid (fields_calls s j 2000 b _ H5.out hj (by omega) (by omega) (HG.out.mv M5.out h8) h8)
    rw [← hFR] at FC
    have hfl := Hx.fields_le (s := s.data.toList) (i := j) (most := 2000) hj
    have hfs := fun h => Hx.fields_st (s := s.data.toList) (i := j) (most := 2000) h
    have hfv := fun (G : Hx.F) h => Hx.fields_values (s := s.data.toList) (i := j) (most := 2000) (g := G) h
    rw [← hFR, hsl] at hfl
    simp only [← hFR] at hfs hfv
    have HFS := Lib.hid (And.intro hfl (And.intro hfs hfv))
    have HR2 := Lib.hid hr
    have hww := M5.out.size
    have hgw5 : g < w5.heap.size := heap_lt P5.out
    have hGw5 : G < w5.heap.size := heap_lt Q5.out
    have hbw5 : b < w5.heap.size := H5.out.lt
    clear hfi HR hr hfl hfs hfv hFR hmp
    go_wp2_with fail
    refine FC.out.mono ?_
    rintro e w6 ⟨k1, k2, hno, hyes⟩
    have M6 := Lib.hid (M5.out.trans k1); have H6 := Lib.hid k2; have Q6 := Lib.hid (Q5.out.mv k1 hGb); have P6 := Lib.hid (P5.out.mv k1 hgb)
    obtain ⟨fo, st, j2⟩ := FR
    have hr := HR2.out
    obtain ⟨hfl, hfs, hfv⟩ := HFS.out
    simp only at hr hfl hfs hfv hno hyes H6
    clear HR2 HFS FC k1 k2 a0 a1 a2 a3 af0 af1 af2 af3 b0 b1 b2 b3 M5 H5 Q5 P5
    obtain ⟨a0, a1, a2, a3, af⟩ := Q6.out.cells
    have af0 := af 0; have af1 := af 1; have af2 := af 2; have af3 := af 3
    obtain ⟨b0, b1, b2, b3, bf⟩ := P6.out.cells
    have bf3 := bf 3
    clear af bf
    cases fo with
    | none =>
      obtain rfl := hno rfl
      have h2 : st ≠ 200 := hfs rfl
      have n3 : ((st : Int) != 200) = true := by rw [bne_iff_ne]; omega
      simp only at hr
      subst hr
      have N2 := Lib.hid h2
      clear hno hyes hfs hfv h2
      have Z := Lib.hid (Q6.out.put m p [] false)
      go_wp2_with fail
      obtain ⟨z0, z1, z2, z3, _⟩ := Z.out.cells
      (try simp only [Exit.inBlock, Exit.then])
      refine bodyPost_ret (v := .tuple #[qv m p [] false, .int .i64 st]) (by simp [results, Tryz.results24, go_sem, z0, z1, z2, z3, qv]) rfl ?_
      exact ⟨M6.out.put4 hGw _ _ _ _, m, p, [], false, rfl, fun h => absurd h N2.out⟩
    | some f =>
    obtain ⟨rfl, rfl, hnl, vn, vv, k⟩ := hyes f rfl
    have F6 := Lib.hid k
    have hvl : ∀ v ∈ f.values, v.length ≤ 100000 := fun v hv => by have := hfv f rfl v hv; omega
    obtain ⟨LR, hLR⟩ : ∃ LR, LR = Hx.length f := ⟨_, rfl⟩
    simp only at hr
    rw [← hLR] at hr
    have h1 := fun h => Hx.length_none (f := f) h
    have h2 := fun (n : Nat) h => Hx.length_le (f := f) (n := n) h
    rw [← hLR] at h1
    simp only [← hLR] at h2
    have HL := Lib.hid hLR; have HL2 := Lib.hid (And.intro h1 h2); have HR3 := Lib.hid hr
    obtain ⟨_, _, _, d3, _⟩ := F6.out.cells
    clear hno hyes hfs hfv k hr hLR h1 h2
    obtain ⟨w7, hw7⟩ : ∃ w7, w7 = w6.setCell ⟨g, 3, none⟩ (.bool f.close) := ⟨_, rfl⟩
    have H7 : Hid (Hr b s j2 w7) := Lib.hid (by rw [hw7]; exact H6.out.other (a := ⟨g, 3, none⟩) hgb _)
    have M7 : Hid (Mv b w w7) := Lib.hid (by rw [hw7]; exact M6.out.set (a := ⟨g, 3, none⟩) (.inr hgw) _)
    have Q7 : Hid (QAt G [] [] [] false w7) := Lib.hid (by rw [hw7]; exact Q6.out.other (a := ⟨g, 3, none⟩) (Ne.symm hgG) _)
    have P7 : Hid (QAt g m p [] f.close w7) := Lib.hid (by rw [hw7]; exact P6.out.close _)
    have F7 : Hid (FAt w5.heap.size vn vv f w7) := Lib.hid (by rw [hw7]; exact F6.out.mv ((Mv.refl g w6).set (a := ⟨g, 3, none⟩) (.inl rfl) _) hgw5)
    clear H6 M6 Q6 P6 F6
    go_upto_region 13 with fail
    rw [← hw7]
    clear hw7 a0 a1 a2 a3 af0 af1 af2 af3 b0 b1 b2 b3 bf3 d3
    have LC := Lib.hid (length_calls f w5.heap.size vn vv w7 F7.out hnl hvl)
    rw [← HL.out] at LC
    go_wp2_with fail
    refine LC.out.mono ?_
    rintro e w8 ⟨rfl, k⟩
    have H8 := Lib.hid (H7.out.below k); have M8 := Lib.hid (M7.out.below k); have Q8 := Lib.hid (Q7.out.below k); have P8 := Lib.hid (P7.out.below k)
    clear k LC HL H7 M7 Q7 P7 F7
    obtain ⟨a0, a1, a2, a3, af⟩ := Q8.out.cells
    have af0 := af 0; have af1 := af 1; have af2 := af 2; have af3 := af 3
    obtain ⟨b0, b1, b2, b3, bf⟩ := P8.out.cells
    have bf2 := bf 2
    clear af bf
    obtain ⟨no, st⟩ := LR
    have hr := HR3.out
    obtain ⟨h1, h2⟩ := HL2.out
    simp only at hr h1 h2
    clear HR3 HL2
    cases no with
    | none =>
      obtain rfl := h1 rfl
      simp only at hr
      simp only [lenI]
      obtain ⟨CR, hCR⟩ : ∃ CR, CR = Hx.chunks s.data.toList j2 := ⟨_, rfl⟩
      rw [← hCR] at hr
      have CC := Lib.hid (chunks_calls s j2 b _ H8.out hfl.2 hs (HG.out.mv M8.out h8) h8)
      rw [← hCR] at CC
      have HR4 := Lib.hid hr
      clear hr hCR h1 h2
      go_wp2_with fail
      refine CC.out.mono ?_
      rintro e w9 ⟨rfl, k1, k2⟩
      obtain ⟨bd, st, j3⟩ := CR
      have hr := HR4.out
      simp only at hr k1 ⊢
      obtain ⟨w10, hw10⟩ : ∃ w10, w10 = w9.setCell ⟨g, 2, none⟩ (.string ⟨bd.toArray⟩) := ⟨_, rfl⟩
      have H10 : Hid (Hr b s j3 w10) := Lib.hid (by rw [hw10]; exact k1.other (a := ⟨g, 2, none⟩) hgb _)
      have M10 : Hid (Mv b w w10) := Lib.hid (by rw [hw10]; exact (M8.out.trans k2).set (a := ⟨g, 2, none⟩) (.inr hgw) _)
      have Q10 : Hid (QAt G [] [] [] false w10) := Lib.hid (by rw [hw10]; exact (Q8.out.mv k2 hGb).other (a := ⟨g, 2, none⟩) (Ne.symm hgG) _)
      have P9 := P8.out.mv k2 hgb
      have P10 : Hid (QAt g m p bd f.close w10) := Lib.hid (by rw [hw10]; exact P9.body bd)
      obtain ⟨b0, b1, b2, b3, bf⟩ := P9.cells
      have bf2 := bf 2
      clear k1 k2 HR4 CC H8 M8 Q8 P8 P9 a0 a1 a2 a3 af0 af1 af2 af3 bf
      go_upto_region 18 with fail
      rw [← hw10]
      clear hw10 b0 b1 b2 b3 bf2
      obtain ⟨a0, a1, a2, a3, af⟩ := Q10.out.cells
      have af0 := af 0; have af1 := af 1; have af2 := af 2; have af3 := af 3
      obtain ⟨b0, b1, b2, b3, bf⟩ := P10.out.cells
      clear af bf
      have HR5 := Lib.hid hr
      clear hr
      have Z := Lib.hid (Q10.out.put m p bd f.close)
      go_wp2_with fail
      obtain ⟨z0, z1, z2, z3, _⟩ := Z.out.cells
      (try simp only [Exit.inBlock, Exit.then])
      refine bodyPost_ret (v := .tuple #[qv m p bd f.close, .int .i64 st]) (by simp [results, Tryz.results24, go_sem, z0, z1, z2, z3, qv]) rfl ?_
      have hr := HR5.out
      by_cases h200 : st = 200
      · rw [if_pos h200] at hr
        subst h200 hr
        exact ⟨M10.out.put4 hGw _ _ _ _, m, p, bd, f.close, rfl, fun _ => ⟨rfl, H10.out.put4 hGb _ _ _ _⟩⟩
      · rw [if_neg h200] at hr
        subst hr
        exact ⟨M10.out.put4 hGw _ _ _ _, m, p, bd, f.close, rfl, fun h => absurd h h200⟩
    | some n =>
    have hn := h2 n rfl
    simp only at hr
    simp only [lenI]
    by_cases h200 : st = 200
    rotate_left
    · rw [if_pos h200] at hr
      have n3 : ((st : Int) != 200) = true := by rw [bne_iff_ne]; omega
      subst hr
      have N2 := Lib.hid h200
      clear h1 h2 h200
      have Z := Lib.hid (Q8.out.put m p [] f.close)
      go_wp2_with fail
      obtain ⟨z0, z1, z2, z3, _⟩ := Z.out.cells
      (try simp only [Exit.inBlock, Exit.then])
      refine bodyPost_ret (v := .tuple #[qv m p [] f.close, .int .i64 st]) (by simp [results, Tryz.results24, go_sem, z0, z1, z2, z3, qv]) rfl ?_
      exact ⟨M8.out.put4 hGw _ _ _ _, m, p, [], f.close, rfl, fun h => absurd h N2.out⟩
    obtain rfl := h200
    rw [if_neg (fun h => h rfl)] at hr
    have nneg : ((n : Int) == -1) = false := by rw [beq_eq_false_iff_ne]; omega
    have c0 := H8.out.c0; have c1 := H8.out.c1; have e1 := H8.out.fr 1
    clear h1 h2
    by_cases hmo : s.size - j2 < n
    · rw [if_pos hmo] at hr
      have hmI : (s.size : Int) - (j2 : Int) < (n : Int) := by omega
      subst hr
      clear hmo
      go_wp2_with fail
      go_region
      go_upto_region 20 with fail
      clear a0 a1 a2 a3 af0 af1 af2 af3 b0 b1 b2 b3 bf2 c0 c1 e1 hmI
      obtain ⟨wc, hwc⟩ : ∃ wc, wc = w8.drew := ⟨_, rfl⟩
      rw [← hwc]
      have M9 : Hid (Mv b w wc) := Lib.hid (by rw [hwc]; exact M8.out.drew)
      have Q9 : Hid (QAt G [] [] [] false wc) := Lib.hid (by rw [hwc]; exact Q8.out)
      have P9 : Hid (QAt g m p [] f.close wc) := Lib.hid (by rw [hwc]; exact P8.out)
      clear hwc H8 M8 Q8 P8
      obtain ⟨a0, a1, a2, a3, af⟩ := Q9.out.cells
      have af0 := af 0; have af1 := af 1; have af2 := af 2; have af3 := af 3
      obtain ⟨b0, b1, b2, b3, bf⟩ := P9.out.cells
      clear af bf
      have Z := Lib.hid (Q9.out.put m p [] f.close)
      go_wp2_with fail
      obtain ⟨z0, z1, z2, z3, _⟩ := Z.out.cells
      (try simp only [Exit.inBlock, Exit.then])
      refine bodyPost_ret (v := .tuple #[qv m p [] f.close, .int .i64 0]) (by simp [results, Tryz.results24, go_sem, z0, z1, z2, z3, qv]) rfl ?_
      exact ⟨M9.out.put4 hGw _ _ _ _, m, p, [], f.close, rfl, fun h => by cases h⟩
    rw [if_neg hmo] at hr
    have hmI : ¬ (s.size : Int) - (j2 : Int) < (n : Int) := by omega
    obtain ⟨X, hX⟩ : ∃ X, X = (s.data.toList.drop j2).take n := ⟨_, rfl⟩
    obtain ⟨E, hE⟩ : ∃ E, E = j2 + n := ⟨_, rfl⟩
    have mE : (j2 : Int) + (n : Int) = (E : Int) := by omega
    have hE1 : j2 ≤ E := by omega
    have hE2 : E ≤ s.size := by omega
    have hxe : s.extract j2 E = ⟨X.toArray⟩ := by rw [extract_list, hX, show E - j2 = n by omega]
    rw [← hX, ← hE] at hr
    have HR6 := Lib.hid hr; have HXE := Lib.hid hxe
    have hj2s : j2 ≤ s.size := hfl.2
    have hwr : IntKind.i64.wrap ((j2 : Int) + (n : Int)) = (E : Int) := by
      rw [mE]
      have h1 : E ≤ 90000 := by omega
      unfold IntKind.wrap
      simp [IntKind.signed, IntKind.bits]
      omega
    have hwr2 : IntKind.i64.wrap (E : Int) = (E : Int) := by rw [← mE]; exact hwr.trans mE.symm
    clear hr hX hxe hE hmo
    go_wp2_with fail
    go_region
    go_upto_region 21 with fail
    clear a0 a1 a2 a3 af0 af1 af2 af3 b0 b1 b2 b3 bf2 c0 c1 e1
    obtain ⟨wc, hwc⟩ : ∃ wc, wc = w8.drew := ⟨_, rfl⟩
    rw [← hwc]
    have H9 : Hid (Hr b s j2 wc) := Lib.hid (by rw [hwc]; exact H8.out)
    have M9 : Hid (Mv b w wc) := Lib.hid (by rw [hwc]; exact M8.out.drew)
    have Q9 : Hid (QAt G [] [] [] false wc) := Lib.hid (by rw [hwc]; exact Q8.out)
    have P9 : Hid (QAt g m p [] f.close wc) := Lib.hid (by rw [hwc]; exact P8.out)
    clear hwc H8 M8 Q8 P8 hmI
    have c0 := H9.out.c0; have c1 := H9.out.c1; have e1 := H9.out.fr 1
    obtain ⟨_, _, b2, _, bf⟩ := P9.out.cells
    have bf2 := bf 2
    clear bf
    go_wp2_with fail
    go_region
    rw [HXE.out]
    clear c0 c1 e1 b2 bf2
    obtain ⟨wd, hwd⟩ : ∃ wd, wd = (wc.setCell ⟨g, 2, none⟩ (.string ⟨X.toArray⟩)).drew := ⟨_, rfl⟩
    rw [← hwd]
    have H10 : Hid (Hr b s j2 wd) := Lib.hid (by rw [hwd]; exact (H9.out.other (a := ⟨g, 2, none⟩) hgb _).drew)
    have M10 : Hid (Mv b w wd) := Lib.hid (by rw [hwd]; exact (M9.out.set (a := ⟨g, 2, none⟩) (.inr hgw) _).drew)
    have Q10 : Hid (QAt G [] [] [] false wd) := Lib.hid (by rw [hwd]; exact (Q9.out.other (a := ⟨g, 2, none⟩) (Ne.symm hgG) _))
    have P10 : Hid (QAt g m p X f.close wd) := Lib.hid (by rw [hwd]; exact P9.out.body X)
    clear hwd H9 M9 Q9 P9
    have c0 := H10.out.c0; have c1 := H10.out.c1; have e1 := H10.out.fr 1
    go_upto_region 23 with fail
    clear c0 c1 e1 hwr hwr2 mE
    obtain ⟨we, hwe⟩ : ∃ we, we = wd.setCell ⟨b, 1, none⟩ (.int .i64 (E : Int)) := ⟨_, rfl⟩
    rw [← hwe]
    have H11 : Hid (Hr b s E we) := Lib.hid (by rw [hwe]; exact H10.out.set1 E)
    have M11 : Hid (Mv b w we) := Lib.hid (by rw [hwe]; exact M10.out.set (a := ⟨b, 1, none⟩) (.inl rfl) _)
    have Q11 : Hid (QAt G [] [] [] false we) := Lib.hid (by rw [hwe]; exact Q10.out.other (a := ⟨b, 1, none⟩) (Ne.symm hGb) _)
    have P11 : Hid (QAt g m p X f.close we) := Lib.hid (by rw [hwe]; exact P10.out.other (a := ⟨b, 1, none⟩) (Ne.symm hgb) _)
    clear hwe H10 M10 Q10 P10
    obtain ⟨a0, a1, a2, a3, af⟩ := Q11.out.cells
    have af0 := af 0; have af1 := af 1; have af2 := af 2; have af3 := af 3
    obtain ⟨b0, b1, b2, b3, bf⟩ := P11.out.cells
    clear af bf
    have Z := Lib.hid (Q11.out.put m p X f.close)
    go_wp2_with fail
    obtain ⟨z0, z1, z2, z3, _⟩ := Z.out.cells
    (try simp only [Exit.inBlock, Exit.then])
    refine bodyPost_ret (v := .tuple #[qv m p X f.close, .int .i64 200]) (by simp [results, Tryz.results24, go_sem, z0, z1, z2, z3, qv]) rfl ?_
    have hr := HR6.out
    subst hr
    exact ⟨M11.out.put4 hGw _ _ _ _, m, p, X, f.close, rfl, fun _ => ⟨rfl, H11.out.put4 hGb _ _ _ _⟩⟩
end Go.Proofs.YthdmdafhldicmaaGreatDoor
