/- WALKS: fields. -/
import Derived.Test.YthdmdafhldicmaaGreatDoorHf
import Derived.Test.YthdmdafhldicmaaGreatDoorHxVal
import Derived.WalkMore
namespace Go.Proofs.YthdmdafhldicmaaGreatDoor
open Go.RowKit Go.Maps Go.WideMaps

theorem Hr.belowB {b B : Nat} {s : ByteArray} {i : Int} {w w' : World} (h : Hr b s i w) (k : Below B w w') (hb : b < B) : Hr b s i w' := by
  unfold Hr; rw [k.block _ hb]; exact h
theorem Mv.belowB {b B : Nat} {w0 w w' : World} (h : Mv b w0 w) (k : Below B w w') (hB : w0.heap.size ≤ B) : Mv b w0 w' :=
  ⟨k.os.trans h.os, k.tape.trans h.tape, k.output.trans h.output, Nat.le_trans h.size k.size, fun i hi hn => (k.block i (by omega)).trans (h.block i hi hn)⟩

/-- What 'fields' comes to. -/
def FieldsPost (b : Nat) (s : ByteArray) (r : Option Hx.F × Nat × Nat) (w : World) (e : Ending) (w' : World) : Prop :=
  Mv b w w' ∧ Hr b s r.2.2 w' ∧ (r.1 = none → e = .returned (.tuple #[.pointer none, .int .i64 r.2.1])) ∧
  ∀ f, r.1 = some f → e = .returned (.tuple #[.pointer (some ⟨w.heap.size + 1, 0, none⟩), .int .i64 200]) ∧ r.2.1 = 200 ∧ f.names.length ≤ 100000 ∧ ∃ vn vv, FAt w.heap.size vn vv f w'

theorem fields_first (w : World) : FAt w.heap.size (.slice none 0 0) (.slice none 0 0) Hx.F.nil ((w.alloc (.map #[] 0)).alloc (.cells #[.map (some w.heap.size), .slice none 0 0, .slice none 0 0, .bool false] 77)) := by
  refine ⟨?_, ?_, World.ownsRow_nil _ _ _ _, World.ownsRow_nil _ _ _ _, fun g hg => (by simp [Value.ownBlock] at hg), rfl⟩
  · have := heap_alloc_new (w.alloc (.map #[] 0)) (.cells #[.map (some w.heap.size), .slice none 0 0, .slice none 0 0, .bool false] 77)
    rw [show (w.alloc (.map #[] 0)).heap.size = w.heap.size + 1 by simp] at this
    exact this
  · refine ⟨.map [], ?_, isMap_empty, fun n => rfl⟩
    exact (World.ownsMap_made w Tryz.prog 9 (plainElem Tryz.prog 3)).alloc _

set_option maxRecDepth 100000 in
set_option maxHeartbeats 2000000 in
theorem fields_calls (s : ByteArray) (i most : Nat) (b : Nat) (w : World) (h : Hr b s i w) (hi : i ≤ s.size) (hs : s.size ≤ 100000) (hm : most ≤ 1000000000) (hg : Glb w) (h8 : 8 ≤ b) :
    Calls Tryz.prog 38 #[.pointer (some ⟨b, 0, none⟩), .int .i64 most] w (FieldsPost b s (Hx.fields s.data.toList i most) w) := by
  have hmm := @run_makeMap Tryz.prog
  have hbw := h.lt
  obtain ⟨R, hR⟩ : ∃ R, R = Hx.fields s.data.toList i most := ⟨_, rfl⟩
  rw [← hR]
  unfold Hx.fields at hR
  have hsl : s.data.toList.length = s.size := rfl
  rw [hsl] at hR
  have HR := Lib.hid hR
  have HH := Lib.hid ((h.alloc (.map #[] 0)).alloc (.cells #[.map (some w.heap.size), .slice none 0 0, .slice none 0 0, .bool false] 77))
  have HM := Lib.hid (((Mv.refl b w).alloc (.map #[] 0)).alloc (.cells #[.map (some w.heap.size), .slice none 0 0, .slice none 0 0, .bool false] 77))
  have HF := Lib.hid (fields_first w)
  have HG := Lib.hid hg
  clear h hR hg
  go_enter Tryz.func38, Tryz.ntmps38
  go_wp2_with fail
  go_step3
  go_wp2_with fail
  go_step3
  go_wp2_with fail
  go_loopg [7] (s.size + 1 - i) (fun q z wr => ∃ (f : Hx.F) (j : Nat) (vn vv : Value), i ≤ j ∧ j ≤ s.size ∧ s.size < j + q ∧ f.names.length ≤ j ∧ Hid (R = Hx.fieldsN s.data.toList most q f j) ∧ Hid (FAt w.heap.size vn vv f wr) ∧ Hid (Hr b s j wr) ∧ Hid (Mv b w wr))
  case atStart => exact ⟨Hx.F.nil, i, _, _, Nat.le_refl _, hi, by omega, Nat.zero_le _, HR, HF, HH, HM⟩
  case round =>
    clear HR HF HH HM
    obtain ⟨f, j, vn, vv, hij, hj, hq, hfn, HR, HF, HH, HM⟩ := hrel
    obtain ⟨q, rfl⟩ : ∃ q, gk = q + 1 := ⟨gk - 1, by omega⟩
    have hr := HR.out
    rw [Hx.fieldsN_succ] at hr
    have hle := Hx.line_le (s := s.data.toList) (i := j) (most := most) hj
    have hlt := fun h => Hx.line_lt (s := s.data.toList) (i := j) (most := most) h
    have htl := Hx.line_text_le s.data.toList j most
    rw [hsl] at hle htl
    obtain ⟨L, hL⟩ : ∃ L, L = Hx.line s.data.toList j most := ⟨_, rfl⟩
    rw [← hL] at hr hle htl
    simp only [← hL] at hlt
    have HL := Lib.hid hL; have HR2 := Lib.hid hr
    have hG := HG.out.mv HM.out h8
    have HG2 := Lib.hid hG
    clear hL hr HR hG
    go_wp2_with fail
    refine (line_calls s j most b _ HH.out hj (by omega) hm HG2.out).mono ?_
    rintro e w2 ⟨rfl, k1, k2⟩
    rw [← HL.out] at k1 ⊢
    obtain ⟨t, st, j2⟩ := L
    simp only at hle htl hlt k1 ⊢
    have H2 := Lib.hid k1; have M2 := Lib.hid (HM.out.trans k2); have F2 := Lib.hid (HF.out.mv k2 hbw)
    have hr := HR2.out
    simp only at hr
    clear k1 k2 HL HR2 HH HF HM HG2
    by_cases hst : st = 200
    rotate_left
    · rw [if_pos hst] at hr
      have hne : ((st : Int) != 200) = true := by rw [bne_iff_ne]; omega
      subst hr
      clear hst hlt
      go_wp2_with fail
      (try rw [Exit.noGoto_ret])
      go_ret2
      exact ⟨M2.out, H2.out, fun _ => rfl, fun f hf => by cases hf⟩
    subst hst
    rw [if_neg (fun h => h rfl)] at hr
    have hlt2 : j < j2 := hlt rfl
    clear hlt
    by_cases ht : t = []
    · rw [if_pos ht] at hr
      subst hr
      subst ht
      go_wp2_with fail
      (try rw [Exit.noGoto_ret])
      go_ret2
      refine ⟨M2.out, H2.out, fun hf => (by cases hf), fun g hg => ?_⟩
      injection hg with hg
      subst hg
      exact ⟨rfl, rfl, by omega, vn, vv, F2.out⟩
    · rw [if_neg ht] at hr
      have hte : (t == []) = false := by simpa using ht
      have HR3 := Lib.hid hr
      have hg2 := HG.out.mv M2.out h8
      have HG2 := Lib.hid hg2
      have hb8 : 8 ≤ w.heap.size := by omega
      clear hr ht hg2
      go_wp2_with fail
      refine (field_calls f t w.heap.size vn vv _ F2.out HG2.out hb8 (by omega) (by omega)).mono ?_
      rintro e w3 ⟨k, hno, hyes⟩
      have H3 := Lib.hid (H2.out.belowB k hbw); have M3 := Lib.hid (M2.out.belowB k (Nat.le_refl _))
      clear k H2 M2 F2 HG2
      cases hfd : Hx.field f t with
      | none =>
        obtain rfl := hno hfd
        have hr := HR3.out
        rw [hfd] at hr
        simp only at hr
        subst hr
        clear hno hyes hfd HR3
        go_wp2_with fail
        (try rw [Exit.noGoto_ret])
        go_ret2
        exact ⟨M3.out, H3.out, fun _ => rfl, fun f hf => by cases hf⟩
      | some g =>
        obtain ⟨rfl, vn2, vv2, k⟩ := hyes g hfd
        have hr := HR3.out
        rw [hfd] at hr
        simp only at hr
        have HR4 := Lib.hid hr; have F3 := Lib.hid k
        have hgn := (Hx.field_names hfd).1
        clear hno hyes hfd HR3 hr k
        go_wp2_with fail
        go_roundg q
        case measure => omega
        case rel => exact ⟨g, j2, vn2, vv2, by omega, by omega, by omega, by omega, HR4, F3, H3, M3⟩
end Go.Proofs.YthdmdafhldicmaaGreatDoor
