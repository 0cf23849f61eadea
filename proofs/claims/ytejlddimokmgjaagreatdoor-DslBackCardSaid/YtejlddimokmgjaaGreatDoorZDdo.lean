/- WALKS: Doc, Line: a document's JSON, an op's. -/
import Derived.Test.YtejlddimokmgjaaGreatDoorGk
import Derived.Test.YtejlddimokmgjaaGreatDoorGc
import Derived.Deep.RegionHeld3
namespace Go.Proofs.YtejlddimokmgjaaGreatDoor
open Go.RowKit

theorem app_arr (a b : List UInt8) : ((⟨a.toArray⟩ : ByteArray) ++ ⟨b.toArray⟩) = ⟨(a ++ b).toArray⟩ := by
  apply ByteArray.ext
  simp
theorem size_arr (l : List UInt8) : (⟨l.toArray⟩ : ByteArray).size = l.length := by simp [ByteArray.size]
theorem jtext_callsL (t : List UInt8) (w : World) (hs : t.length ≤ 100000000) :
    Calls Tryz.prog 50 #[.string ⟨t.toArray⟩] w fun e w' => e = .returned (.string ⟨(Cx.jtext t).toArray⟩) ∧ Below w.heap.size w w' := by
  have h := jtext_calls ⟨t.toArray⟩ w (by rw [size_arr]; exact hs)
  rw [show (⟨t.toArray⟩ : ByteArray).data.toList = t by simp] at h
  exact h

set_option maxRecDepth 100000 in
set_option maxHeartbeats 4000000 in
theorem doc_calls (i t : List UInt8) (w : World) (hi : i.length ≤ 100000) (ht : t.length ≤ 100000) :
    Calls Tryz.prog 20 #[.agg #[.string ⟨i.toArray⟩, .string ⟨t.toArray⟩]] w fun e w' => e = .returned (.string ⟨(Dx.docB i t).toArray⟩) ∧ Below w.heap.size w w' := by
  obtain ⟨W, hW⟩ : ∃ W, W = w.alloc (.cells #[.string ⟨i.toArray⟩, .string ⟨t.toArray⟩] 42) := ⟨_, rfl⟩
  have B0 := Lib.hid (show Below w.heap.size w W by rw [hW]; exact (Below.refl _ _).alloc (Nat.le_refl _) _)
  have BV := Lib.hid (show W.heap[w.heap.size]? = some (.cells #[.string ⟨i.toArray⟩, .string ⟨t.toArray⟩] 42 (0, 0)) by rw [hW]; exact heap_alloc_new w _)
  have HW := Lib.hid hW
  obtain ⟨TX, hTX⟩ : ∃ TX : List UInt8 → ByteArray, ∀ x, TX x = ⟨(Cx.jtext x).toArray⟩ := ⟨_, fun _ => rfl⟩
  have JT := Lib.hid (show ∀ (x : List UInt8) (wq : World), x.length ≤ 100000 → Below W.heap.size W wq → Calls Tryz.prog 50 #[.string ⟨x.toArray⟩] wq fun e w' => e = .returned (.string (TX x)) ∧ Below W.heap.size W w' from fun x wq hx hq => by
    rw [hTX]
    exact (jtext_callsL x wq (by omega)).mono fun e w' h => ⟨h.1, hq.trans (h.2.mono hq.size)⟩)
  have hz1 : (TX i).size ≤ 1000000 := by rw [hTX, size_arr]; have := Cx.jtext_length i; omega
  have hz2 : (TX t).size ≤ 1000000 := by rw [hTX, size_arr]; have := Cx.jtext_length t; omega
  have FIN := Lib.hid (show ((((⟨#[123, 34, 105, 100, 34, 58]⟩ ++ TX i) ++ ⟨#[44, 34, 116, 101, 120, 116, 34, 58]⟩) ++ TX t) ++ ⟨#[125]⟩ : ByteArray) = ⟨(Dx.docB i t).toArray⟩ by
    rw [hTX, hTX]; simp [Dx.docB, ByteArray.ext_iff, ByteArray.data_append])
  have KEEP := Lib.hid (show ∀ wq, Below W.heap.size W wq → wq.cell? ⟨w.heap.size, 0, none⟩ = some (.string ⟨i.toArray⟩) ∧ wq.cell? ⟨w.heap.size, 1, none⟩ = some (.string ⟨t.toArray⟩) from fun wq hq => by
    have hb := (hq.block w.heap.size (heap_lt BV.out)).trans BV.out
    exact ⟨by simp [World.cell?, hb], by simp [World.cell?, hb]⟩)
  have n1 : ¬ 9223372036854775807 < 6 + (TX i).size := by omega
  have n2 : ¬ 9223372036854775807 < 6 + (TX i).size + 8 := by omega
  have n3 : ¬ 9223372036854775807 < 6 + (TX i).size + 8 + (TX t).size := by omega
  have n4 : ¬ 9223372036854775807 < 6 + (TX i).size + 8 + (TX t).size + 1 := by omega
  clear hTX hW
  go_enter Tryz.func20, Tryz.ntmps20
  go_upto_region 1 with fail
  rw [← HW.out]
  clear HW
  have TW := (Below.refl W.heap.size W).drew
  obtain ⟨q0, q1⟩ := KEEP.out _ (Below.refl W.heap.size W)
  go_wp2_with fail
  go_region_held3 (fun w' => w'.cell? ⟨w.heap.size, 0, none⟩ = some (.string ⟨i.toArray⟩) ∧ w'.cell? ⟨w.heap.size, 1, none⟩ = some (.string ⟨t.toArray⟩)) (exact KEEP.out _ ‹Below W.heap.size W _›)
    (first
      | (go_at_call 50; refine (JT.out _ _ (by omega) ‹Below W.heap.size W _›).mono ?_; rintro e w9 ⟨rfl, hb9⟩))
  all_goals
    try go_wp2_with fail
    go_ret
    exact ⟨ret_str FIN.out, B0.out.trans (hb9.mono B0.out.size)⟩

set_option maxRecDepth 100000 in
set_option maxHeartbeats 4000000 in
theorem line_calls (o : Dx.Op) (w : World) (hi : o.id.length ≤ 100000) (ht : o.text.length ≤ 100000) :
    Calls Tryz.prog 30 #[.agg #[.bool o.del, .string ⟨o.id.toArray⟩, .string ⟨o.text.toArray⟩]] w fun e w' => e = .returned (.string ⟨(Dx.lineB o).toArray⟩) ∧ Below w.heap.size w w' := by
  obtain ⟨d, i, t⟩ := o
  simp only at hi ht ⊢
  obtain ⟨W, hW⟩ : ∃ W, W = w.alloc (.cells #[.bool d, .string ⟨i.toArray⟩, .string ⟨t.toArray⟩] 64) := ⟨_, rfl⟩
  have B0 := Lib.hid (show Below w.heap.size w W by rw [hW]; exact (Below.refl _ _).alloc (Nat.le_refl _) _)
  have BV := Lib.hid (show W.heap[w.heap.size]? = some (.cells #[.bool d, .string ⟨i.toArray⟩, .string ⟨t.toArray⟩] 64 (0, 0)) by rw [hW]; exact heap_alloc_new w _)
  have HW := Lib.hid hW
  obtain ⟨L, hL⟩ : ∃ L : ByteArray, L = ⟨(Dx.lineB ⟨d, i, t⟩).toArray⟩ := ⟨_, rfl⟩
  rw [← hL]
  have HL := Lib.hid hL
  clear hW hL
  go_enter Tryz.func30, Tryz.ntmps30
  go_upto_region 1 with fail
  rw [← HW.out]
  clear HW
  obtain ⟨q0, q1, q2, _⟩ := cells3 BV.out
  cases d with
  | true =>
    obtain ⟨T, hT⟩ : ∃ T : ByteArray, T = ⟨(Cx.jtext i).toArray⟩ := ⟨_, rfl⟩
    have hz : T.size ≤ 1000000 := by rw [hT, size_arr]; have := Cx.jtext_length i; omega
    have FIN := Lib.hid (show (⟨#[123, 34, 100, 101, 108, 101, 116, 101, 34, 58, 123, 34, 105, 100, 34, 58]⟩ ++ T ++ ⟨#[125, 125]⟩ : ByteArray) = L by
      rw [HL.out, hT]; simp [Dx.lineB, ByteArray.ext_iff, ByteArray.data_append])
    have n1 : ¬ 9223372036854775807 < 16 + T.size := by omega
    have n2 : ¬ 9223372036854775807 < 16 + T.size + 2 := by omega
    have HT := Lib.hid hT
    clear hT HL
    go_wp2_with fail
    refine (jtext_callsL i W (by omega)).mono ?_
    rw [← HT.out]
    rintro e w2 ⟨rfl, hb⟩
    have B2 := Lib.hid (B0.out.trans (hb.mono B0.out.size))
    clear hb q0 q1 q2
    go_wp2_with fail
    go_ret
    exact ⟨ret_str FIN.out, B2.out⟩
  | false =>
    obtain ⟨T, hT⟩ : ∃ T : ByteArray, T = ⟨(Dx.docB i t).toArray⟩ := ⟨_, rfl⟩
    have hz : T.size ≤ 2000000 := by rw [hT, size_arr]; have := Dx.docB_length i t; omega
    have FIN := Lib.hid (show (⟨#[123, 34, 105, 110, 100, 101, 120, 34, 58]⟩ ++ T ++ ⟨#[125]⟩ : ByteArray) = L by
      rw [HL.out, hT]; simp [Dx.lineB, ByteArray.ext_iff, ByteArray.data_append])
    have n1 : ¬ 9223372036854775807 < 9 + T.size := by omega
    have n2 : ¬ 9223372036854775807 < 9 + T.size + 1 := by omega
    have HT := Lib.hid hT
    clear hT HL
    go_wp2_with fail
    refine (doc_calls i t W hi ht).mono ?_
    rw [← HT.out]
    rintro e w2 ⟨rfl, hb⟩
    have B2 := Lib.hid (B0.out.trans (hb.mono B0.out.size))
    clear hb q0 q1 q2
    go_wp2_with fail
    go_ret
    exact ⟨ret_str FIN.out, B2.out⟩
end Go.Proofs.YtejlddimokmgjaaGreatDoor
