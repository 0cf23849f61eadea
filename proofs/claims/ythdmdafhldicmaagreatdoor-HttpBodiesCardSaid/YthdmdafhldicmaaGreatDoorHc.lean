/- WALKS: lower. -/
import Derived.Test.YthdmdafhldicmaaGreatDoorHb
import Derived.Lib.ConvBytes
import Derived.Lib.SlBytesRow
import Derived.Lib.AtoiErrMem
namespace Go.Proofs.YthdmdafhldicmaaGreatDoor
open Go.RowKit

/-- The call's own copy of a text, in memory. -/
def LW (w : World) (l : List UInt8) (w' : World) : Prop := (∀ j, j < l.length → w'.cell? ⟨w.heap.size, j, none⟩ = some (.int .u8 (l.getD j 0).toNat)) ∧ (∀ j, j < l.length → w'.frozen? ⟨w.heap.size, j, none⟩ = false) ∧ Below w.heap.size w w'
theorem LW.first (w : World) (t : List UInt8) : LW w t (Lib.bytesWorld w 5 ⟨t.toArray⟩) := by
  have hn := Lib.bytesWorld_at_new w 5 ⟨t.toArray⟩
  refine ⟨fun j hj => Lib.bytesWorld_cell w 5 ⟨t.toArray⟩ j (by rw [size_list]; exact hj), fun j hj => ?_, Lib.bytesWorld_below w 5 ⟨t.toArray⟩⟩
  have hs : t.length ≤ (Lib.bytesCells w 5 ⟨t.toArray⟩).size := by simp [Lib.bytesCells]
  simp only [World.frozen?, hn]
  simp
  omega
theorem LW.set {w : World} {l : List UInt8} {w' : World} (h : LW w l w') (i : Nat) (x : UInt8) (hi : i < l.length) : LW w (l.set i x) (w'.setCell ⟨w.heap.size, i, none⟩ (.int .u8 x.toNat)) := by
  refine ⟨fun j hj => ?_, fun j hj => ?_, h.2.2.setCell (Nat.le_refl _) _⟩
  · rw [List.length_set] at hj
    by_cases e : j = i
    · subst e
      rw [World.cell?_setCell_same (h := h.1 j hj)]
      simp [List.getD, hj]
    · rw [World.cell?_setCell_other (h := by intro he; injection he with _ h2; exact e h2.symm), h.1 j hj]
      simp [List.getD, Ne.symm e]
  · rw [World.frozen?_setCell]
    exact h.2.1 j (by simpa using hj)
theorem LW.bytes {w : World} {l : List UInt8} {w' : World} (h : LW w l w') : Lib.Bytes w' w.heap.size 0 ⟨l.toArray⟩ := by
  intro i hi
  have hi' : i < l.length := by simpa [ByteArray.size] using hi
  rw [Nat.zero_add, h.1 i hi']
  rw [show l.getD i 0 = l[i] by simp [List.getD, hi']]
  rfl

theorem or32_all : ∀ k : Fin 256, bits .or .u8 k.val 32 = (((UInt8.ofNat k.val) ||| 32).toNat : Int) := by decide +kernel
theorem or32 (c : UInt8) : bits .or .u8 (c.toNat : Int) 32 = ((c ||| 32).toNat : Int) := by
  have := or32_all ⟨c.toNat, c.toNat_lt⟩
  simpa using this

theorem low_step {t : List UInt8} {i : Nat} {c : UInt8} (hc : t[i]? = some c) : ((t.take i).map Hx.lowerB ++ t.drop i).set i (Hx.lowerB c) = (t.take (i + 1)).map Hx.lowerB ++ t.drop (i + 1) := by
  obtain ⟨hlt, he⟩ := List.getElem?_eq_some_iff.1 hc
  have hl : ((t.take i).map Hx.lowerB).length = i := by simp; omega
  rw [List.set_append_right _ _ (by omega), hl, Nat.sub_self, List.drop_eq_getElem_cons hlt, List.set_cons_zero, List.take_add_one, hc]
  simp
theorem low_len {t : List UInt8} {i : Nat} (hi : i ≤ t.length) : ((t.take i).map Hx.lowerB ++ t.drop i).length = t.length := by simp; omega
theorem low_get {t : List UInt8} {i : Nat} {c : UInt8} (hc : t[i]? = some c) : ((t.take i).map Hx.lowerB ++ t.drop i).getD i 0 = c := by
  obtain ⟨hlt, he⟩ := List.getElem?_eq_some_iff.1 hc
  have hl : ((t.take i).map Hx.lowerB).length = i := by simp; omega
  rw [List.getD, List.getElem?_append_right (by omega), hl, Nat.sub_self, List.getElem?_drop, Nat.add_zero, hc]; rfl
theorem low_same {t : List UInt8} {i : Nat} {c : UInt8} (hc : t[i]? = some c) (h : Hx.lowerB c = c) : (t.take i).map Hx.lowerB ++ t.drop i = (t.take (i + 1)).map Hx.lowerB ++ t.drop (i + 1) := by
  obtain ⟨hlt, he⟩ := List.getElem?_eq_some_iff.1 hc
  rw [List.drop_eq_getElem_cons hlt, List.take_add_one, hc, he]
  simp [h]

set_option maxRecDepth 100000 in
set_option maxHeartbeats 1000000 in
theorem lower_calls (t : List UInt8) (w : World) (hl : t.length ≤ 1000000000) :
    Calls Tryz.prog 57 #[.string ⟨t.toArray⟩] w fun e w' => e = .returned (.string ⟨(Hx.lower t).toArray⟩) ∧ Below w.heap.size w w' := by
  have hts := size_list t
  have hcv := Lib.run_convert_string_bytes (P := Tryz.prog) w 9 50 5 ⟨t.toArray⟩ (u := .string) Tryz.underlying9 Tryz.underlying50 Tryz.underlying5
  rw [hts] at hcv
  have L0 := Lib.hid (LW.first w t)
  obtain ⟨W1, hW1⟩ : ∃ W1, W1 = Lib.bytesWorld w 5 ⟨t.toArray⟩ := ⟨_, rfl⟩
  rw [← hW1] at hcv L0
  obtain ⟨cp, hcp⟩ : ∃ cp, cp = grownCap w t.length 0 5 := ⟨_, rfl⟩
  rw [← hcp] at hcv
  clear hW1 hcp
  go_enter Tryz.func57, Tryz.ntmps57
  go_wp2_with fail
  go_loopg [10] (t.length) (fun q z wr => ∃ i : Nat, z = .int .i64 i ∧ q = t.length - i ∧ i ≤ t.length ∧ Hid (LW w ((t.take i).map Hx.lowerB ++ t.drop i) wr))
  case atStart => exact ⟨0, rfl, rfl, Nat.zero_le _, Lib.hid (by simpa using L0.out)⟩
  case round =>
    clear hcv L0
    obtain ⟨i, rfl, hq, hi, HL⟩ := hrel
    have HQ := Lib.hid hq
    clear hq
    rcases Nat.lt_or_ge i t.length with hlt | hge
    · obtain ⟨c, hc⟩ : ∃ c, t[i]? = some c := ⟨t[i], by simp [hlt]⟩
      have hltI : (i : Int) < (t.length : Int) := by omega
      have b0 := HL.out.1 i (by rw [low_len hi]; exact hlt)
      have f0 := HL.out.2.1 i (by rw [low_len hi]; exact hlt)
      rw [low_get hc] at b0
      cases hcap : Hx.capital c with
      | true =>
        have hlow : Hx.lowerB c = c ||| 32 := by unfold Hx.lowerB; rw [hcap]; rfl
        have ho := or32 c
        rw [← hlow] at ho
        obtain ⟨x, hx⟩ : ∃ x, x = Hx.lowerB c := ⟨_, rfl⟩
        rw [← hx] at ho
        have HS : Hid (LW w ((t.take (i + 1)).map Hx.lowerB ++ t.drop (i + 1)) (wr.setCell ⟨w.heap.size, i, none⟩ (.int .u8 x.toNat))) := Lib.hid (by
          have := HL.out.set i x (by rw [low_len hi]; exact hlt)
          rw [hx, low_step hc, ← hx] at this
          exact this)
        have HCC : Hid (∀ wq, Calls Tryz.prog 53 #[.int .u8 c.toNat] wq fun e w' => e = .returned (.bool true) ∧ w' = wq) := Lib.hid fun wq => by rw [← hcap]; exact hcapital_calls c wq
        clear hc hcap hlow hx
        go_wp2_with fail
        refine (HCC.out _).mono ?_
        rintro e w' ⟨rfl, hw'⟩
        have hw' := hw'.symm
        subst hw'
        go_wp2_with fail
        go_roundg (t.length - (i + 1))
        case measure => have := HQ.out; omega
        case rel => exact ⟨i + 1, by go_num, rfl, by omega, HS⟩
      | false =>
        have hlow : Hx.lowerB c = c := by unfold Hx.lowerB; rw [hcap]; rfl
        have HS : Hid (LW w ((t.take (i + 1)).map Hx.lowerB ++ t.drop (i + 1)) wr) := Lib.hid (by rw [← low_same hc hlow]; exact HL.out)
        have HCC : Hid (∀ wq, Calls Tryz.prog 53 #[.int .u8 c.toNat] wq fun e w' => e = .returned (.bool false) ∧ w' = wq) := Lib.hid fun wq => by rw [← hcap]; exact hcapital_calls c wq
        clear hc hcap hlow
        go_wp2_with fail
        refine (HCC.out _).mono ?_
        rintro e w' ⟨rfl, hw'⟩
        have hw' := hw'.symm
        subst hw'
        go_wp2_with fail
        go_roundg (t.length - (i + 1))
        case measure => have := HQ.out; omega
        case rel => exact ⟨i + 1, by go_num, rfl, by omega, HS⟩
    · have hik : i = t.length := by omega
      subst hik
      have hltI : ¬ (t.length : Int) < (t.length : Int) := by omega
      have hfin : LW w (Hx.lower t) wr := by
        have := HL.out
        rw [List.take_length, List.drop_length, List.append_nil] at this
        exact this
      have hb := hfin.bytes
      have hcv := Lib.run_convert_whole (P := Tryz.prog) wr 50 5 9 Tryz.underlying50 Tryz.underlying5 Tryz.underlying9 w.heap.size 0 ⟨(Hx.lower t).toArray⟩ hb cp
      have hll : (Hx.lower t).length = t.length := by simp [Hx.lower]
      rw [size_list, hll] at hcv
      obtain ⟨T, hT⟩ : ∃ T, T = Hx.lower t := ⟨_, rfl⟩
      rw [← hT] at hcv
      have HT := Lib.hid hT; have HFI := Lib.hid hfin
      clear hfin hb hll hT HL
      go_wp2_with fail
      go_ret
      rw [← HT.out]
      exact ⟨rfl, HFI.out.2.2⟩
end Go.Proofs.YthdmdafhldicmaaGreatDoor
