/- WALKS: is a text valid, is it a number, as the document's answer asks. -/
import Derived.Test.YtbdmepilmoomeaaGreatDoorRd2
import Derived.Test.YtbdmepilmoomeaaGreatDoorLib1
import Derived.Test.YtbdmepilmoomeaaGreatDoorCxLaws
import Derived.Test.YtbdmepilmoomeaaGreatDoorCxText
import Derived.Deep.RegionHeld3
import Derived.Test.YtbdmepilmoomeaaGreatDoorRd3
import Derived.Test.YtbdmepilmoomeaaGreatDoorParts
import Derived.Test.YtbdmepilmoomeaaGreatDoorEsc2
import Derived.Test.YtbdmepilmoomeaaGreatDoorCxFit
namespace Go.Proofs.YtbdmepilmoomeaaGreatDoor
open Go.RowKit

/-- A reader of the document's answer at a block: its text, its place, how many values began, its fault and where. -/
def R2 (b : Nat) (s : ByteArray) (i m e p : Int) (w : World) : Prop := w.heap[b]? = some (.cells #[.string s, .int .i64 i, .int .i64 m, .int .i64 e, .int .i64 p] 54 (0, 0))
theorem R2.c0 {b : Nat} {s : ByteArray} {i m e p : Int} {w : World} (h : R2 b s i m e p w) : w.cell? ⟨b, 0, none⟩ = some (.string s) := by unfold R2 at h; simp [World.cell?, h]
theorem R2.c1 {b : Nat} {s : ByteArray} {i m e p : Int} {w : World} (h : R2 b s i m e p w) : w.cell? ⟨b, 1, none⟩ = some (.int .i64 i) := by unfold R2 at h; simp [World.cell?, h]
theorem R2.c2 {b : Nat} {s : ByteArray} {i m e p : Int} {w : World} (h : R2 b s i m e p w) : w.cell? ⟨b, 2, none⟩ = some (.int .i64 m) := by unfold R2 at h; simp [World.cell?, h]
theorem R2.c3 {b : Nat} {s : ByteArray} {i m e p : Int} {w : World} (h : R2 b s i m e p w) : w.cell? ⟨b, 3, none⟩ = some (.int .i64 e) := by unfold R2 at h; simp [World.cell?, h]
theorem R2.c4 {b : Nat} {s : ByteArray} {i m e p : Int} {w : World} (h : R2 b s i m e p w) : w.cell? ⟨b, 4, none⟩ = some (.int .i64 p) := by unfold R2 at h; simp [World.cell?, h]
theorem R2.fr {b : Nat} {s : ByteArray} {i m e p : Int} {w : World} (h : R2 b s i m e p w) (o : Nat) : w.frozen? ⟨b, o, none⟩ = false := by unfold R2 at h; simp [World.frozen?, h]
theorem R2.lt {b : Nat} {s : ByteArray} {i m e p : Int} {w : World} (h : R2 b s i m e p w) : b < w.heap.size := by
  rcases Nat.lt_or_ge b w.heap.size with g | g
  · exact g
  · unfold R2 at h; rw [Array.getElem?_eq_none g] at h; cases h
theorem R2.drewN {b : Nat} {s : ByteArray} {i m e p : Int} {w : World} (h : R2 b s i m e p w) (n : Nat) : R2 b s i m e p (w.drewN n) := h
theorem R2.drew {b : Nat} {s : ByteArray} {i m e p : Int} {w : World} (h : R2 b s i m e p w) : R2 b s i m e p w.drew := h
theorem R2.alloc {b : Nat} {s : ByteArray} {i m e p : Int} {w : World} (h : R2 b s i m e p w) (o : Obj) : R2 b s i m e p (w.alloc o) := by
  unfold R2; rw [Below.heap_alloc _ _ _ h.lt]; exact h
theorem R2.below {b : Nat} {s : ByteArray} {i m e p : Int} {w w' : World} (h : R2 b s i m e p w) (k : Below w.heap.size w w') : R2 b s i m e p w' := by
  unfold R2; rw [k.block _ h.lt]; exact h
theorem R2.set1 {b : Nat} {s : ByteArray} {i m e p : Int} {w : World} (h : R2 b s i m e p w) (j : Int) : R2 b s j m e p (w.setCell ⟨b, 1, none⟩ (.int .i64 j)) := by
  have hl := h.lt
  unfold R2 at *; simp [World.setCell, Array.getElem?_modify, h]
theorem R2.set2 {b : Nat} {s : ByteArray} {i m e p : Int} {w : World} (h : R2 b s i m e p w) (j : Int) : R2 b s i j e p (w.setCell ⟨b, 2, none⟩ (.int .i64 j)) := by
  have hl := h.lt
  unfold R2 at *; simp [World.setCell, Array.getElem?_modify, h]
theorem R2.set3 {b : Nat} {s : ByteArray} {i m e p : Int} {w : World} (h : R2 b s i m e p w) (j : Int) : R2 b s i m j p (w.setCell ⟨b, 3, none⟩ (.int .i64 j)) := by
  have hl := h.lt
  unfold R2 at *; simp [World.setCell, Array.getElem?_modify, h]
theorem R2.set4 {b : Nat} {s : ByteArray} {i m e p : Int} {w : World} (h : R2 b s i m e p w) (j : Int) : R2 b s i m e j (w.setCell ⟨b, 4, none⟩ (.int .i64 j)) := by
  have hl := h.lt
  unfold R2 at *; simp [World.setCell, Array.getElem?_modify, h]
theorem R2.other {b : Nat} {s : ByteArray} {i m e p : Int} {w : World} (h : R2 b s i m e p w) {a : Addr} (ha : a.block ≠ b) (u : Value) : R2 b s i m e p (w.setCell a u) := by
  unfold R2; rw [Below.heap_setCell _ _ _ _ (by omega)]; exact h
theorem R2.mv {b c : Nat} {s : ByteArray} {i m e p : Int} {w w' : World} (h : R2 b s i m e p w) (k : Mv c w w') (hn : b ≠ c) : R2 b s i m e p w' := k.heap h hn

/-- What a method of this reader comes to: a value, or the reader is in its fault; what was there but for the reader is as it was. -/
def RG {α : Type} (r : Except (Nat × Nat) α) (V : α → Ending → World → Prop) (F : Ending → World → Prop) (b : Nat) (s : ByteArray) (w : World) (e : Ending) (w' : World) : Prop :=
  Mv b w w' ∧ (∀ a, r = .ok a → V a e w') ∧ ∀ x, r = .error x → F e w' ∧ x.1 ≠ 0 ∧ ∃ (j : Nat) (m : Int), j ≤ s.size ∧ R2 b s j m x.1 x.2 w'
theorem RG.ok {α : Type} {r : Except (Nat × Nat) α} {V : α → Ending → World → Prop} {F : Ending → World → Prop} {b : Nat} {s : ByteArray} {w w' : World} {e : Ending} {a : α} (hr : r = .ok a) (hm : Mv b w w') (hv : V a e w') : RG r V F b s w e w' :=
  ⟨hm, fun a' h => by rw [hr] at h; injection h with h; subst h; exact hv, fun x h => by rw [hr] at h; cases h⟩
theorem RG.err {α : Type} {r : Except (Nat × Nat) α} {V : α → Ending → World → Prop} {F : Ending → World → Prop} {b : Nat} {s : ByteArray} {w w' : World} {e : Ending} {x : Nat × Nat} {j : Nat} {m : Int} (hr : r = .error x) (hm : Mv b w w') (hf : F e w') (hx : x.1 ≠ 0) (hj : j ≤ s.size) (h : R2 b s j m x.1 x.2 w') : RG r V F b s w e w' :=
  ⟨hm, fun a h => (by rw [hr] at h; cases h), fun y h => by rw [hr] at h; injection h with h; subst h; exact ⟨hf, hx, j, m, hj, h⟩⟩
theorem RG.of_ok {α : Type} {r : Except (Nat × Nat) α} {V : α → Ending → World → Prop} {F : Ending → World → Prop} {b : Nat} {s : ByteArray} {w w' : World} {e : Ending} {a : α} (h : RG r V F b s w e w') (hr : r = .ok a) : V a e w' ∧ Mv b w w' := ⟨h.2.1 a hr, h.1⟩
theorem RG.of_err {α : Type} {r : Except (Nat × Nat) α} {V : α → Ending → World → Prop} {F : Ending → World → Prop} {b : Nat} {s : ByteArray} {w w' : World} {e : Ending} {x : Nat × Nat} (h : RG r V F b s w e w') (hr : r = .error x) : Mv b w w' ∧ F e w' ∧ x.1 ≠ 0 ∧ ∃ (j : Nat) (m : Int), j ≤ s.size ∧ R2 b s j m x.1 x.2 w' := ⟨h.1, h.2.2 x hr⟩
/-- .. a method that returns nothing. -/
def At2 (b : Nat) (s : ByteArray) (m : Int) (j : Nat) (e : Ending) (w' : World) : Prop := e = .returned (.tuple #[]) ∧ R2 b s j m 0 0 w'
def Nul (e : Ending) (_ : World) : Prop := e = .returned (.tuple #[])
/-- .. that returns a text. -/
def Text2 (b : Nat) (s : ByteArray) (m : Int) (a : List UInt8 × Nat) (e : Ending) (w' : World) : Prop := e = .returned (.string ⟨a.1.toArray⟩) ∧ R2 b s a.2 m 0 0 w'
def Str (e : Ending) (_ : World) : Prop := e = .returned (.string ⟨#[]⟩)

theorem fail_calls (s : ByteArray) (i m p x q : Int) (b : Nat) (w : World) (h : R2 b s i m 0 p w) :
    Calls Tryz.prog 29 #[.pointer (some ⟨b, 0, none⟩), .int .i64 x, .int .i64 q] w fun e w' => e = .returned (.tuple #[]) ∧ R2 b s i m x q w' ∧ Mv b w w' := by
  have c3 := h.c3; have c4 := h.c4; have f3 := h.fr 3; have f4 := h.fr 4
  have H := Lib.hid h; clear h
  go_enter Tryz.func29, Tryz.ntmps29
  go_wp2
  go_end0
  exact ⟨rfl, (H.out.set3 _).set4 _, ((Mv.refl b w).set (.inl rfl) _).set (.inl rfl) _⟩
theorem fail_no (s : ByteArray) (i m y p x q : Int) (b : Nat) (w : World) (h : R2 b s i m y p w) (hy : y ≠ 0) :
    Calls Tryz.prog 29 #[.pointer (some ⟨b, 0, none⟩), .int .i64 x, .int .i64 q] w fun e w' => e = .returned (.tuple #[]) ∧ w' = w := by
  have c3 := h.c3
  have hyb : (y == 0) = false := by simpa using hy
  clear h hy
  go_enter Tryz.func29, Tryz.ntmps29
  go_wp2
  go_end0
  exact ⟨rfl, rfl⟩
theorem ok_calls (s : ByteArray) (i m y p : Int) (b : Nat) (w : World) (h : R2 b s i m y p w) :
    Calls Tryz.prog 30 #[.pointer (some ⟨b, 0, none⟩)] w fun e w' => e = .returned (.bool (y == 0)) ∧ w' = w := by
  have c3 := h.c3
  clear h
  go_enter Tryz.func30, Tryz.ntmps30
  go_wp2
  go_ret
  exact ⟨rfl, rfl⟩

theorem next_in (s : ByteArray) (i : Nat) (m y p : Int) (b : Nat) (w : World) (h : R2 b s i m y p w) (hi : i < s.size) (_hs : s.size ≤ maxLen) :
    Calls Tryz.prog 54 #[.pointer (some ⟨b, 0, none⟩)] w fun e w' => e = .returned (.int .u8 s[i].toNat) ∧ ∃ n, w' = w.drewN n := by
  have h0 := h.c0; have h1 := h.c1
  unfold maxLen at _hs
  clear h
  go_enter Tryz.func54, Tryz.ntmps54
  go_wp2
  go_quiet (fail)
  go_wp2
  go_quiet (fail)
  go_wp2
  go_ret
  exact ⟨rfl, _, World.drewN_drewN _ _ _⟩
theorem next_out (s : ByteArray) (i : Nat) (m y p : Int) (b : Nat) (w : World) (h : R2 b s i m y p w) (hi : s.size ≤ i) (_hs : s.size ≤ maxLen) :
    Calls Tryz.prog 54 #[.pointer (some ⟨b, 0, none⟩)] w fun e w' => e = .returned (.int .u8 0) ∧ ∃ n, w' = w.drewN n := by
  have h0 := h.c0; have h1 := h.c1
  unfold maxLen at _hs
  clear h
  go_enter Tryz.func54, Tryz.ntmps54
  go_wp2
  go_quiet (fail)
  go_wp2
  go_ret
  exact ⟨rfl, _, rfl⟩
theorem next_calls (s : ByteArray) (i : Nat) (m y p : Int) (b : Nat) (w : World) (h : R2 b s i m y p w) (hs : s.size ≤ maxLen) :
    Calls Tryz.prog 54 #[.pointer (some ⟨b, 0, none⟩)] w fun e w' => e = .returned (.int .u8 (Cx.peek s.data.toList i).toNat) ∧ ∃ n, w' = w.drewN n := by
  rcases Nat.lt_or_ge i s.size with hi | hi
  · rw [peek_size hi]; exact next_in s i m y p b w h hi hs
  · rw [Cx.peek_end (by simpa using hi)]; exact next_out s i m y p b w h hi hs

theorem digit2_calls (c : UInt8) (w : World) : Calls Tryz.prog 39 #[.int .u8 c.toNat] w fun e w' => e = .returned (.bool (Cx.isDig c)) ∧ w = w' := by
  by_cases h1 : 48 ≤ c.toNat
  · by_cases h2 : c.toNat ≤ 57
    · have hd : Cx.isDig c = true := by
        simp only [Cx.isDig, Bool.and_eq_true, decide_eq_true_eq, UInt8.le_iff_toNat_le]; exact ⟨h1, h2⟩
      rw [hd]
      clear hd
      have hq : decide ((c.toNat : Int) ≤ 57) = true := by simp; omega
      go_enter Tryz.func39, Tryz.ntmps39
      go_wp2
      go_ret
      exact ⟨rfl, rfl⟩
    · have hd : Cx.isDig c = false := by
        simp only [Cx.isDig, Bool.and_eq_false_iff, decide_eq_false_iff_not, UInt8.le_iff_toNat_le]; exact .inr h2
      rw [hd]
      clear hd
      have hq : decide ((c.toNat : Int) ≤ 57) = false := by simp; omega
      go_enter Tryz.func39, Tryz.ntmps39
      go_wp2
      go_ret
      exact ⟨rfl, rfl⟩
  · have hd : Cx.isDig c = false := by
      simp only [Cx.isDig, Bool.and_eq_false_iff, decide_eq_false_iff_not, UInt8.le_iff_toNat_le]; exact .inl h1
    rw [hd]
    clear hd
    go_enter Tryz.func39, Tryz.ntmps39
    go_wp2
    go_ret
    exact ⟨rfl, rfl⟩

set_option maxHeartbeats 1000000 in
theorem blanks2_calls (s : ByteArray) (i : Nat) (m y p : Int) (b : Nat) (w : World) (h : R2 b s i m y p w) (hle : i ≤ s.size) (hs : s.size ≤ maxLen) :
    Calls Tryz.prog 28 #[.pointer (some ⟨b, 0, none⟩)] w fun e w' =>
      e = .returned (.tuple #[]) ∧ R2 b s (Cx.skipB s.data.toList i) m y p w' ∧ Mv b w w' := by
  have hs' := hs
  unfold maxLen at hs
  have H := Lib.hid h; clear h
  go_enter Tryz.func28, Tryz.ntmps28
  go_wp2
  go_loopg [] (s.size - i) (fun q wr => ∃ k : Nat, q = s.size - k ∧ i ≤ k ∧ k ≤ s.size ∧ Cx.skipB s.data.toList k = Cx.skipB s.data.toList i ∧ R2 b s k m y p wr ∧ Mv b w wr)
  case atStart => exact ⟨i, rfl, Nat.le_refl _, hle, rfl, H.out, Mv.refl _ _⟩
  case round =>
    obtain ⟨k, hq, hik, hks, hsk, hrd, hmv⟩ := hrel
    have h0 := hrd.c0; have h1 := hrd.c1; have hf := hrd.fr 1
    have HSK := Lib.hid hsk; have HRD := Lib.hid hrd; have HMV := Lib.hid hmv; have HQ := Lib.hid hq
    clear hsk hrd hmv hq
    rcases Nat.lt_or_ge k s.size with hlt | hge
    · obtain ⟨c, hc⟩ : ∃ c, c = s[k] := ⟨_, rfl⟩
      have hpk : Cx.peek s.data.toList k = c := by rw [hc]; exact peek_size hlt
      have HPK := Lib.hid hpk
      clear hpk
      by_cases hbl : Cx.isBlank c = true
      · have hstep := Cx.skipB_step (s := s.data.toList) (i := k) hlt (by rw [HPK.out]; exact hbl)
        have HST := Lib.hid hstep
        clear hstep
        have hb4 := Cx.isBlank_ne hbl
        clear hbl
        have hsk : (s[k].toNat : Int) = (c.toNat : Int) := by rw [hc]
        clear hc
        rcases hb4 with rfl | rfl | rfl | rfl
        all_goals
          go_wp2
          go_quiet (fail)
          go_wp2
          go_roundg (s.size - (k + 1))
          case measure => have := HQ.out; omega
          case rel => exact ⟨k + 1, rfl, by omega, by omega, by rw [← HST.out]; exact HSK.out, (HRD.out.drewN _).set1 _, (HMV.out.drewN _).set (.inl rfl) _⟩
      · have hbf : Cx.isBlank c = false := by simpa using hbl
        have HB := Lib.hid hbf
        simp only [Cx.isBlank, Bool.or_eq_false_iff, beq_eq_false_iff_ne] at hbf
        obtain ⟨⟨⟨n1, n2⟩, n3⟩, n4⟩ := hbf
        have ne : ∀ k' : UInt8, c ≠ k' → ((s[k].toNat : Int) == (k'.toNat : Int)) = false := fun k' hk => by
          rw [beq_eq_false_iff_ne]; intro e; exact hk (by rw [hc]; exact UInt8.toNat_inj.1 (by omega))
        have e1 : ((s[k].toNat : Int) == 32) = false := ne 32 n1
        have e2 : ((s[k].toNat : Int) == 9) = false := ne 9 n2
        have e3 : ((s[k].toNat : Int) == 10) = false := ne 10 n3
        have e4 : ((s[k].toNat : Int) == 13) = false := ne 13 n4
        clear ne n1 n2 n3 n4 hbl hc
        go_wp2
        go_quiet (fail)
        go_wp2
        go_end0
        have hst : Cx.skipB s.data.toList i = k := by rw [← HSK.out]; exact Cx.skipB_stop (by rw [HPK.out]; exact HB.out)
        rw [hst]
        exact ⟨rfl, HRD.out.drewN _, HMV.out.drewN _⟩
    · have hd : decide (k < s.size) = false := by simp; omega
      go_wp2
      go_quiet (fail)
      go_wp2
      go_end0
      have hst : Cx.skipB s.data.toList i = k := by rw [← HSK.out]; exact Cx.skipB_stop (by rw [Cx.peek_end hge]; rfl)
      rw [hst]
      exact ⟨rfl, HRD.out.drewN _, HMV.out.drewN _⟩

/-- What 'row' does. -/
def RowPost (b : Nat) (s : ByteArray) (i : Nat) (m : Int) (w : World) (e : Ending) (w' : World) : Prop :=
  e = .returned (.tuple #[]) ∧ Mv b w w' ∧ ((Cx.digits s.data.toList i = .ok (Cx.skipD s.data.toList i) ∧ R2 b s (Cx.skipD s.data.toList i) m 0 0 w') ∨ (Cx.digits s.data.toList i = .error (7, i) ∧ R2 b s i m 7 i w'))
theorem row_calls (s : ByteArray) (i : Nat) (m : Int) (b : Nat) (w : World) (h : R2 b s i m 0 0 w) (hle : i ≤ s.size) (hs : s.size ≤ maxLen) :
    Calls Tryz.prog 90 #[.pointer (some ⟨b, 0, none⟩)] w (RowPost b s i m w) := by
  have hs' := hs
  unfold maxLen at hs
  have H := Lib.hid h; clear h
  have h1 := H.out.c1
  go_enter Tryz.func90, Tryz.ntmps90
  go_wp2_with fail
  refine (next_calls s i m 0 0 b _ H.out hs').mono ?_
  rintro e w' ⟨rfl, n, rfl⟩
  go_wp2_with fail
  refine (digit2_calls _ _).mono ?_
  rintro e w' ⟨rfl, rfl⟩
  by_cases hd0 : Cx.isDig (Cx.peek s.data.toList i) = true
  rotate_left
  · have hd' : Cx.isDig (Cx.peek s.data.toList i) = false := by simpa using hd0
    rw [hd']
    have hfin : Cx.digits s.data.toList i = .error (7, i) := by unfold Cx.digits; rw [if_pos (Cx.skipD_stop hd')]
    have HF := Lib.hid hfin
    clear hd' hd0 hfin
    go_wp2_with fail
    refine (fail_calls s i m 0 7 i b _ (H.out.drewN n)).mono ?_
    rintro e w2 ⟨rfl, k1, k2⟩
    have K1 := Lib.hid k1; have K2 := Lib.hid k2
    clear k1 k2
    go_wp2
    go_end0
    exact ⟨rfl, ((Mv.refl b w).drewN n).trans K2.out, .inr ⟨HF.out, K1.out⟩⟩
  rw [hd0]
  have HD0 := Lib.hid hd0
  clear hd0
  go_wp2_with fail
  clear h1
  go_loopg [] (s.size - i) (fun q wr => ∃ k : Nat, q = s.size - k ∧ i ≤ k ∧ k ≤ s.size ∧ Cx.skipD s.data.toList k = Cx.skipD s.data.toList i ∧ R2 b s k m 0 0 wr ∧ Mv b w wr)
  case atStart => exact ⟨i, rfl, Nat.le_refl _, hle, rfl, H.out.drewN _, (Mv.refl _ _).drewN _⟩
  case round =>
    obtain ⟨k, hq, hik, hks, hsk, hrd, hmv⟩ := hrel
    have h1 := hrd.c1; have hf := hrd.fr 1
    have HSK := Lib.hid hsk; have HRD := Lib.hid hrd; have HMV := Lib.hid hmv; have HQ := Lib.hid hq
    clear hsk hrd hmv hq
    by_cases hd : Cx.isDig (Cx.peek s.data.toList k) = true
    · have hlt : k < s.size := Cx.peek_lt (s := s.data.toList) (fun e => by rw [e] at hd; cases hd)
      have HD := Lib.hid hd; clear hd
      go_wp2_with fail
      refine (next_calls s k m 0 0 b _ HRD.out hs').mono ?_
      rintro e w' ⟨rfl, n, rfl⟩
      go_wp2_with fail
      refine (digit2_calls _ _).mono ?_
      rintro e w' ⟨rfl, rfl⟩
      rw [HD.out]
      go_wp2
      go_roundg (s.size - (k + 1))
      case measure => have := HQ.out; omega
      case rel =>
        have hstep := Cx.skipD_step (s := s.data.toList) (i := k) hlt HD.out
        exact ⟨k + 1, rfl, by omega, by omega, by rw [← hstep]; exact HSK.out, (HRD.out.drewN _).set1 _, (HMV.out.drewN _).set (.inl rfl) _⟩
    · have hd' : Cx.isDig (Cx.peek s.data.toList k) = false := by simpa using hd
      have HD := Lib.hid hd'; clear hd hd'
      have hst : Cx.skipD s.data.toList i = k := by rw [← HSK.out]; exact Cx.skipD_stop HD.out
      have HST := Lib.hid hst; clear hst
      go_wp2_with fail
      refine (next_calls s k m 0 0 b _ HRD.out hs').mono ?_
      rintro e w' ⟨rfl, n, rfl⟩
      go_wp2_with fail
      refine (digit2_calls _ _).mono ?_
      rintro e w' ⟨rfl, rfl⟩
      rw [HD.out]
      go_wp2
      go_end0
      have hne : k ≠ i := by
        rintro rfl
        have := HD0.out; rw [HD.out] at this; cases this
      have hfin : Cx.digits s.data.toList i = .ok k := by unfold Cx.digits; rw [HST.out, if_neg hne]
      exact ⟨rfl, HMV.out.drewN _, .inl ⟨by rw [HST.out]; exact hfin, by rw [HST.out]; exact HRD.out.drewN _⟩⟩

set_option maxHeartbeats 1000000 in
theorem word2_calls (s : ByteArray) (i : Nat) (m : Int) (b : Nat) (W : ByteArray) (w : World) (h : R2 b s i m 0 0 w) (hle : i ≤ s.size) (hs : s.size ≤ maxLen) (h0 : (0 : UInt8) ∉ W.data.toList) (hW : W.size ≤ maxLen) :
    Calls Tryz.prog 55 #[.pointer (some ⟨b, 0, none⟩), .string W] w (RG (Cx.word s.data.toList W.data.toList i) (At2 b s m) Nul b s w) := by
  have hs' := hs
  unfold maxLen at hs hW
  have H := Lib.hid h; clear h
  have H0 := Lib.hid h0; clear h0
  go_enter Tryz.func55, Tryz.ntmps55
  go_wp2
  go_loopg [4] W.size (fun q x wr => ∃ k j : Nat, x = .int .i64 k ∧ q = W.size - k ∧ k ≤ W.size ∧ j ≤ s.size ∧ Hid (j = i + k) ∧ Cx.word s.data.toList W.data.toList i = Cx.word s.data.toList (W.data.toList.drop k) j ∧ R2 b s j m 0 0 wr ∧ Mv b w wr)
  case atStart => exact ⟨0, i, rfl, rfl, Nat.zero_le _, hle, Lib.hid rfl, rfl, H.out, Mv.refl _ _⟩
  case round =>
    obtain ⟨k, j, rfl, hq, hk, hik, HJ, hw, hrd, hmv⟩ := hrel
    have g0 := hrd.c0; have g1 := hrd.c1; have gf := hrd.fr 1
    have HW := Lib.hid hw; have HRD := Lib.hid hrd; have HMV := Lib.hid hmv; have HQ := Lib.hid hq
    clear hw hrd hmv hq
    rcases Nat.lt_or_ge k W.size with hlt | hge
    · have hdr : W.data.toList.drop k = W[k] :: W.data.toList.drop (k + 1) := by rw [List.drop_eq_getElem_cons (show k < W.data.toList.length from hlt)]; rfl
      have hne : W[k] ≠ 0 := fun e => H0.out (by rw [← e]; exact List.getElem_mem (show k < W.data.toList.length from hlt))
      have HD := Lib.hid hdr; have HN := Lib.hid hne; clear hdr hne
      by_cases hc : Cx.peek s.data.toList j = W[k]
      · have hlt2 : j < s.size := Cx.peek_lt (s := s.data.toList) (by rw [hc]; exact HN.out)
        have hc2 : W[k] = s[j] := by rw [← hc]; exact peek_size hlt2
        have HC := Lib.hid hc; clear hc
        have hcn : ((s[j].toNat : Int) != (W[k].toNat : Int)) = false := by rw [hc2]; simp
        have hge2 : ¬ ((s.size : Int) ≤ (j : Int)) := by omega
        clear hc2
        go_wp2_with fail
        refine (ok_calls s _ m 0 0 b _ HRD.out).mono ?_
        rintro e w' ⟨rfl, rfl⟩
        go_wp2_with fail
        go_quiet (fail)
        go_wp2
        go_roundg (W.size - (k + 1))
        case measure => have := HQ.out; omega
        case rel =>
          refine ⟨k + 1, j + 1, by go_num, rfl, by omega, by omega, Lib.hid (by have := HJ.out; omega), ?_, ?_, (HMV.out.drewN _).set (.inl rfl) _⟩
          · rw [HW.out, HD.out]
            conv => lhs; unfold Cx.word
            rw [if_pos HC.out]
          · exact (HRD.out.drewN _).set1 _
      · have hfin : Cx.word s.data.toList W.data.toList i = .error (7, j) := by
          rw [HW.out, HD.out]; unfold Cx.word; rw [if_neg hc]
        have HF := Lib.hid hfin
        clear hfin
        rcases Nat.lt_or_ge j s.size with hlt2 | hge2
        · have hcn : ((s[j].toNat : Int) != (W[k].toNat : Int)) = true := by
            rw [bne_iff_ne]; intro e
            exact hc (by rw [peek_size hlt2]; exact UInt8.toNat_inj.1 (by omega))
          have hge2 : ¬ ((s.size : Int) ≤ (j : Int)) := by omega
          clear hc
          go_wp2_with fail
          refine (ok_calls s _ m 0 0 b _ HRD.out).mono ?_
          rintro e w' ⟨rfl, rfl⟩
          go_wp2_with fail
          go_quiet (fail)
          go_wp2_with fail
          refine (fail_calls s _ m 0 7 _ b _ (HRD.out.drewN _)).mono ?_
          rintro e w2 ⟨rfl, k1, k2⟩
          have K1 := Lib.hid k1; have K2 := Lib.hid k2
          clear k1 k2
          go_wp2
          go_end0
          exact RG.err HF.out ((HMV.out.drewN _).trans K2.out) rfl (show (7 : Nat) ≠ 0 by decide) hik K1.out
        · have hge3 : ((s.size : Int) ≤ (j : Int)) := by omega
          clear hc
          go_wp2_with fail
          refine (ok_calls s _ m 0 0 b _ HRD.out).mono ?_
          rintro e w' ⟨rfl, rfl⟩
          go_wp2_with fail
          go_quiet (fail)
          go_wp2_with fail
          refine (fail_calls s _ m 0 7 _ b _ (HRD.out.drewN _)).mono ?_
          rintro e w2 ⟨rfl, k1, k2⟩
          have K1 := Lib.hid k1; have K2 := Lib.hid k2
          clear k1 k2
          go_wp2
          go_end0
          exact RG.err HF.out ((HMV.out.drewN _).trans K2.out) rfl (show (7 : Nat) ≠ 0 by decide) hik K1.out
    · have hkk : k = W.size := by omega
      subst hkk
      have hfin : Cx.word s.data.toList W.data.toList i = .ok j := by
        rw [HW.out, List.drop_of_length_le (by simp)]; rfl
      have HF := Lib.hid hfin
      clear hfin
      go_wp2_with fail
      go_end0
      exact RG.ok HF.out HMV.out ⟨rfl, HRD.out⟩
/-- .. a reader in its fault goes by no word. -/
theorem word2_no (s : ByteArray) (i m y p : Int) (b : Nat) (W : ByteArray) (w : World) (h : R2 b s i m y p w) (hy : y ≠ 0) (hW : W.size ≤ maxLen) :
    Calls Tryz.prog 55 #[.pointer (some ⟨b, 0, none⟩), .string W] w fun e w' => e = .returned (.tuple #[]) ∧ w' = w := by
  unfold maxLen at hW
  have hyb : (y == 0) = false := by simpa using hy
  have H := Lib.hid h; clear h hy
  rcases Nat.eq_zero_or_pos W.size with h0 | h0
  · have h0' : ¬ (0 : Int) < (W.size : Int) := by omega
    go_enter Tryz.func55, Tryz.ntmps55
    go_wp2
    go_loop [4] (fun x => x = .int .i64 0) (fun _ => 0)
    case atStart => rfl
    case round =>
      subst hrel
      go_wp2_with fail
      go_end0
      exact ⟨rfl, rfl⟩
  · have h0' : (0 : Int) < (W.size : Int) := by omega
    go_enter Tryz.func55, Tryz.ntmps55
    go_wp2
    go_loop [4] (fun x => x = .int .i64 0) (fun _ => 0)
    case atStart => rfl
    case round =>
      subst hrel
      go_wp2_with fail
      refine (ok_calls s _ m y p b _ H.out).mono ?_
      rintro e w' ⟨rfl, rfl⟩
      rw [hyb]
      go_wp2_with fail
      go_end0
      exact ⟨rfl, rfl⟩
end Go.Proofs.YtbdmepilmoomeaaGreatDoor

namespace Cx

def isRune (v : Int) : Bool := decide (0 ≤ v) && decide (v ≤ 1114111) && (decide (v < 55296) || decide (57343 < v))
def rstep (v : Int) (c : UInt8) : Int := 64 * v + c.toNat - 128
def rbase (n : Nat) (a : UInt8) : Int := if n = 2 then (a.toNat : Int) - 192 else if n = 3 then (a.toNat : Int) - 224 else if n = 4 then (a.toNat : Int) - 240 else a.toNat
/-- What n bytes say as a rune. -/
def runeV (n : Nat) (l : Bytes) : Int := ((l.drop 1).take (n - 1)).foldl rstep (rbase n (l.headD 0))

theorem isRune_iff {v : Int} : isRune v = true ↔ 0 ≤ v ∧ v ≤ 1114111 ∧ (v < 55296 ∨ 57343 < v) := by
  simp [isRune, and_assoc]
theorem u8_eq_iff (a : UInt8) (n : Nat) (h : n < 256) : UInt8.ofNat n = a ↔ a.toNat = n := by
  constructor
  · intro e; rw [← e]; simp [UInt8.toNat_ofNat']; omega
  · intro e; apply UInt8.toNat_inj.1; simp [UInt8.toNat_ofNat']; omega
theorem cont_iff {c : UInt8} : cont c = true ↔ 128 ≤ c.toNat ∧ c.toNat ≤ 191 := by
  simp only [cont, Bool.and_eq_true, decide_eq_true_eq, UInt8.le_iff_toNat_le]; exact Iff.rfl

theorem rune_one (a : UInt8) (r : Bytes) : (isRune (runeV 1 (a :: r)) = true ∧ enc (runeV 1 (a :: r)).toNat = [a]) ↔ runeLen (a :: r) = 1 := by
  have e : runeV 1 (a :: r) = a.toNat := rfl
  rw [e]
  have ha := a.toNat_lt
  have h1 : isRune a.toNat = true := isRune_iff.2 (by omega)
  have h2 : runeLen (a :: r) = 1 ↔ a.toNat < 128 := by
    show runeLenC a r = 1 ↔ _
    unfold runeLenC
    have : (a < 128) ↔ a.toNat < 128 := by rw [UInt8.lt_iff_toNat_lt]; exact Iff.rfl
    by_cases h : a < 128
    · rw [if_pos h]; exact ⟨fun _ => this.1 h, fun _ => rfl⟩
    · rw [if_neg h]
      constructor
      · intro h'; repeat' split at h'
        all_goals cases h'
      · intro h'; exact absurd (this.2 h') h
  rw [h2]
  constructor
  · rintro ⟨_, h⟩
    rcases Nat.lt_or_ge a.toNat 128 with g | g
    · exact g
    · exfalso
      unfold enc at h
      simp only [Int.toNat_natCast] at h
      rw [if_neg (by omega), if_pos (by omega)] at h
      simp at h
  · intro h
    refine ⟨h1, ?_⟩
    unfold enc
    simp only [Int.toNat_natCast]
    rw [if_pos (by omega)]
    simp

theorem runeLenC_two (a b : UInt8) (r : Bytes) : runeLenC a (b :: r) = 2 ↔ (194 ≤ a.toNat ∧ a.toNat ≤ 223) ∧ (128 ≤ b.toNat ∧ b.toNat ≤ 191) := by
  unfold runeLenC
  simp only [UInt8.lt_iff_toNat_lt, UInt8.le_iff_toNat_le, cont_iff, List.getD_cons_zero, List.getD_cons_succ]
  simp only [show (128 : UInt8).toNat = 128 from rfl, show (194 : UInt8).toNat = 194 from rfl, show (223 : UInt8).toNat = 223 from rfl, show (224 : UInt8).toNat = 224 from rfl, show (239 : UInt8).toNat = 239 from rfl, show (240 : UInt8).toNat = 240 from rfl, show (244 : UInt8).toNat = 244 from rfl]
  constructor
  · intro h
    repeat' split at h
    all_goals first | omega | (exfalso; revert h; decide) | skip
  · intro h
    rw [if_neg (by omega), if_pos (by omega), if_pos h.2]
theorem rune_two (a b : UInt8) (r : Bytes) : (isRune (runeV 2 (a :: b :: r)) = true ∧ enc (runeV 2 (a :: b :: r)).toNat = [a, b]) ↔ runeLen (a :: b :: r) = 2 := by
  have ha := a.toNat_lt; have hb := b.toNat_lt
  show _ ↔ runeLenC a (b :: r) = 2
  rw [runeLenC_two]
  have e : runeV 2 (a :: b :: r) = 64 * ((a.toNat : Int) - 192) + b.toNat - 128 := rfl
  rw [e, isRune_iff]
  constructor
  · rintro ⟨⟨h0, h1, h2⟩, h⟩
    obtain ⟨v, hv⟩ : ∃ v : Nat, (v : Int) = 64 * ((a.toNat : Int) - 192) + b.toNat - 128 := ⟨(64 * ((a.toNat : Int) - 192) + b.toNat - 128).toNat, by omega⟩
    rw [← hv] at h
    simp only [Int.toNat_natCast] at h
    unfold enc at h
    by_cases g1 : v < 128
    · rw [if_pos g1] at h; simp at h
    · rw [if_neg g1] at h
      by_cases g2 : v < 2048
      · rw [if_pos g2] at h
        injection h with ea h
        injection h with eb _
        rw [u8_eq_iff _ _ (by omega)] at ea eb
        omega
      · rw [if_neg g2] at h
        split at h <;> simp at h
  · intro h
    refine ⟨by omega, ?_⟩
    obtain ⟨v, hv⟩ : ∃ v : Nat, (v : Int) = 64 * ((a.toNat : Int) - 192) + b.toNat - 128 := ⟨(64 * ((a.toNat : Int) - 192) + b.toNat - 128).toNat, by omega⟩
    rw [← hv]
    simp only [Int.toNat_natCast]
    unfold enc
    rw [if_neg (by omega), if_pos (by omega), (u8_eq_iff a _ (by omega)).2 (by omega), (u8_eq_iff b _ (by omega)).2 (by omega)]

theorem runeLenC_three (a b c : UInt8) (r : Bytes) : runeLenC a (b :: c :: r) = 3 ↔ (224 ≤ a.toNat ∧ a.toNat ≤ 239) ∧ (128 ≤ b.toNat ∧ b.toNat ≤ 191) ∧ (128 ≤ c.toNat ∧ c.toNat ≤ 191) ∧ (a.toNat = 224 → 160 ≤ b.toNat) ∧ (a.toNat = 237 → b.toNat ≤ 159) := by
  unfold runeLenC
  have e1 : ∀ k : UInt8, a = k ↔ a.toNat = k.toNat := fun k => UInt8.toNat_inj.symm
  simp only [UInt8.lt_iff_toNat_lt, UInt8.le_iff_toNat_le, cont_iff, List.getD_cons_zero, List.getD_cons_succ, e1]
  simp only [show (128 : UInt8).toNat = 128 from rfl, show (194 : UInt8).toNat = 194 from rfl, show (223 : UInt8).toNat = 223 from rfl, show (224 : UInt8).toNat = 224 from rfl, show (239 : UInt8).toNat = 239 from rfl, show (240 : UInt8).toNat = 240 from rfl, show (244 : UInt8).toNat = 244 from rfl, show (237 : UInt8).toNat = 237 from rfl, show (160 : UInt8).toNat = 160 from rfl, show (159 : UInt8).toNat = 159 from rfl]
  constructor
  · intro h
    repeat' split at h
    all_goals first | omega | (exfalso; revert h; decide) | skip
  · intro h
    rw [if_neg (by omega), if_neg (by omega), if_pos (by omega), if_pos h.2]
theorem rune_three (a b c : UInt8) (r : Bytes) : (isRune (runeV 3 (a :: b :: c :: r)) = true ∧ enc (runeV 3 (a :: b :: c :: r)).toNat = [a, b, c]) ↔ runeLen (a :: b :: c :: r) = 3 := by
  have ha := a.toNat_lt; have hb := b.toNat_lt; have hc := c.toNat_lt
  show _ ↔ runeLenC a (b :: c :: r) = 3
  rw [runeLenC_three]
  have e : runeV 3 (a :: b :: c :: r) = 64 * (64 * ((a.toNat : Int) - 224) + b.toNat - 128) + c.toNat - 128 := rfl
  rw [e, isRune_iff]
  constructor
  · rintro ⟨⟨h0, h1, h2⟩, h⟩
    obtain ⟨v, hv⟩ : ∃ v : Nat, (v : Int) = 64 * (64 * ((a.toNat : Int) - 224) + b.toNat - 128) + c.toNat - 128 := ⟨(64 * (64 * ((a.toNat : Int) - 224) + b.toNat - 128) + c.toNat - 128).toNat, by omega⟩
    rw [← hv] at h
    simp only [Int.toNat_natCast] at h
    unfold enc at h
    by_cases g1 : v < 128
    · rw [if_pos g1] at h; simp at h
    · rw [if_neg g1] at h
      by_cases g2 : v < 2048
      · rw [if_pos g2] at h; simp at h
      · rw [if_neg g2] at h
        by_cases g3 : v < 65536
        · rw [if_pos g3] at h
          injection h with ea h
          injection h with eb h
          injection h with ec _
          rw [u8_eq_iff _ _ (by omega)] at ea eb ec
          omega
        · rw [if_neg g3] at h; simp at h
  · intro h
    refine ⟨by omega, ?_⟩
    obtain ⟨v, hv⟩ : ∃ v : Nat, (v : Int) = 64 * (64 * ((a.toNat : Int) - 224) + b.toNat - 128) + c.toNat - 128 := ⟨(64 * (64 * ((a.toNat : Int) - 224) + b.toNat - 128) + c.toNat - 128).toNat, by omega⟩
    rw [← hv]
    simp only [Int.toNat_natCast]
    unfold enc
    rw [if_neg (by omega), if_neg (by omega), if_pos (by omega), (u8_eq_iff a _ (by omega)).2 (by omega), (u8_eq_iff b _ (by omega)).2 (by omega), (u8_eq_iff c _ (by omega)).2 (by omega)]

theorem runeLenC_four (a b c d : UInt8) (r : Bytes) : runeLenC a (b :: c :: d :: r) = 4 ↔ (240 ≤ a.toNat ∧ a.toNat ≤ 244) ∧ (128 ≤ b.toNat ∧ b.toNat ≤ 191) ∧ (128 ≤ c.toNat ∧ c.toNat ≤ 191) ∧ (128 ≤ d.toNat ∧ d.toNat ≤ 191) ∧ (a.toNat = 240 → 144 ≤ b.toNat) ∧ (a.toNat = 244 → b.toNat ≤ 143) := by
  unfold runeLenC
  have e1 : ∀ k : UInt8, a = k ↔ a.toNat = k.toNat := fun k => UInt8.toNat_inj.symm
  simp only [UInt8.lt_iff_toNat_lt, UInt8.le_iff_toNat_le, cont_iff, List.getD_cons_zero, List.getD_cons_succ, e1]
  simp only [show (128 : UInt8).toNat = 128 from rfl, show (194 : UInt8).toNat = 194 from rfl, show (223 : UInt8).toNat = 223 from rfl, show (224 : UInt8).toNat = 224 from rfl, show (239 : UInt8).toNat = 239 from rfl, show (240 : UInt8).toNat = 240 from rfl, show (244 : UInt8).toNat = 244 from rfl, show (144 : UInt8).toNat = 144 from rfl, show (143 : UInt8).toNat = 143 from rfl]
  constructor
  · intro h
    repeat' split at h
    all_goals first | omega | (exfalso; revert h; decide) | skip
  · intro h
    rw [if_neg (by omega), if_neg (by omega), if_neg (by omega), if_pos (by omega), if_pos h.2]
theorem rune_four (a b c d : UInt8) (r : Bytes) : (isRune (runeV 4 (a :: b :: c :: d :: r)) = true ∧ enc (runeV 4 (a :: b :: c :: d :: r)).toNat = [a, b, c, d]) ↔ runeLen (a :: b :: c :: d :: r) = 4 := by
  have ha := a.toNat_lt; have hb := b.toNat_lt; have hc := c.toNat_lt; have hd := d.toNat_lt
  show _ ↔ runeLenC a (b :: c :: d :: r) = 4
  rw [runeLenC_four]
  have e : runeV 4 (a :: b :: c :: d :: r) = 64 * (64 * (64 * ((a.toNat : Int) - 240) + b.toNat - 128) + c.toNat - 128) + d.toNat - 128 := rfl
  rw [e, isRune_iff]
  constructor
  · rintro ⟨⟨h0, h1, h2⟩, h⟩
    obtain ⟨v, hv⟩ : ∃ v : Nat, (v : Int) = 64 * (64 * (64 * ((a.toNat : Int) - 240) + b.toNat - 128) + c.toNat - 128) + d.toNat - 128 := ⟨(64 * (64 * (64 * ((a.toNat : Int) - 240) + b.toNat - 128) + c.toNat - 128) + d.toNat - 128).toNat, by omega⟩
    rw [← hv] at h
    simp only [Int.toNat_natCast] at h
    unfold enc at h
    by_cases g1 : v < 128
    · rw [if_pos g1] at h; simp at h
    · rw [if_neg g1] at h
      by_cases g2 : v < 2048
      · rw [if_pos g2] at h; simp at h
      · rw [if_neg g2] at h
        by_cases g3 : v < 65536
        · rw [if_pos g3] at h; simp at h
        · rw [if_neg g3] at h
          injection h with ea h
          injection h with eb h
          injection h with ec h
          injection h with ed _
          rw [u8_eq_iff _ _ (by omega)] at ea eb ec ed
          omega
  · intro h
    refine ⟨by omega, ?_⟩
    obtain ⟨v, hv⟩ : ∃ v : Nat, (v : Int) = 64 * (64 * (64 * ((a.toNat : Int) - 240) + b.toNat - 128) + c.toNat - 128) + d.toNat - 128 := ⟨(64 * (64 * (64 * ((a.toNat : Int) - 240) + b.toNat - 128) + c.toNat - 128) + d.toNat - 128).toNat, by omega⟩
    rw [← hv]
    simp only [Int.toNat_natCast]
    unfold enc
    rw [if_neg (by omega), if_neg (by omega), if_neg (by omega), (u8_eq_iff a _ (by omega)).2 (by omega), (u8_eq_iff b _ (by omega)).2 (by omega), (u8_eq_iff c _ (by omega)).2 (by omega), (u8_eq_iff d _ (by omega)).2 (by omega)]

/-- The number of a rune's bytes is the one whose number's bytes they are. -/
theorem rune_n (l : Bytes) (n : Nat) (h1 : 1 ≤ n) (h4 : n ≤ 4) (hl : n ≤ l.length) : (isRune (runeV n l) = true ∧ enc (runeV n l).toNat = l.take n) ↔ runeLen l = n := by
  have hn : n = 1 ∨ n = 2 ∨ n = 3 ∨ n = 4 := by omega
  rcases hn with rfl | rfl | rfl | rfl
  · match l, hl with
    | a :: r, _ => exact rune_one a r
  · match l, hl with
    | a :: b :: r, _ => exact rune_two a b r
    | [_], hl => simp at hl
  · match l, hl with
    | a :: b :: c :: r, _ => exact rune_three a b c r
    | [_, _], hl => simp at hl
    | [_], hl => simp at hl
  · match l, hl with
    | a :: b :: c :: d :: r, _ => exact rune_four a b c d r
    | [_, _, _], hl => simp at hl
    | [_, _], hl => simp at hl
    | [_], hl => simp at hl
end Cx

namespace Go.Proofs.YtbdmepilmoomeaaGreatDoor
open Go.RowKit

theorem is10_calls (v : Int) (w : World) : Calls Tryz.prog 113 #[.int .i64 v] w fun e w' => e = .returned (.bool (Cx.isRune v)) ∧ w' = w := by
  unfold Cx.isRune
  by_cases h0 : 0 ≤ v
  · rw [decide_eq_true h0]
    by_cases h1 : v ≤ 1114111
    · rw [decide_eq_true h1]
      by_cases h2 : v < 55296
      · rw [decide_eq_true h2]
        go_enter Tryz.func113, Tryz.ntmps113
        go_wp2
        go_ret
        exact ⟨rfl, rfl⟩
      · rw [decide_eq_false h2]
        by_cases h3 : 57343 < v
        · rw [decide_eq_true h3]
          go_enter Tryz.func113, Tryz.ntmps113
          go_wp2
          go_ret
          exact ⟨rfl, rfl⟩
        · rw [decide_eq_false h3]
          go_enter Tryz.func113, Tryz.ntmps113
          go_wp2
          go_ret
          exact ⟨rfl, rfl⟩
    · rw [decide_eq_false h1]
      go_enter Tryz.func113, Tryz.ntmps113
      go_wp2
      go_ret
      exact ⟨rfl, rfl⟩
  · rw [decide_eq_false h0]
    go_enter Tryz.func113, Tryz.ntmps113
    go_wp2
    go_ret
    exact ⟨rfl, rfl⟩

theorem conv_bytes (w : World) (xs : List Int) (h : ∀ a ∈ xs, 0 ≤ a ∧ a < 256) :
    (convert 61 9 (.slice (some ⟨w.heap.size, 0, none⟩) xs.length xs.length)).run Tryz.prog (w.alloc (.cells (xs.map (Value.int .u8)).toArray 5)) = .ok (.string ⟨(xs.map fun a => UInt8.ofNat a.toNat).toArray⟩) (w.alloc (.cells (xs.map (Value.int .u8)).toArray 5)) := by
  have hl : (xs.map fun a => UInt8.ofNat a.toNat).length = xs.length := by simp
  have := run_convert_bytes_back (P := Tryz.prog) (w.alloc (.cells (xs.map (Value.int .u8)).toArray 5)) 61 9 5 ⟨w.heap.size, 0, none⟩ xs.length (xs.map fun a => UInt8.ofNat a.toNat) Tryz.underlying61 Tryz.underlying5 Tryz.underlying9 (fun j hj => by
    have hj' : j < xs.length := by simpa using hj
    have hb := h xs[j] (List.getElem_mem hj')
    have hx := heap_alloc_new w (.cells (xs.map (Value.int .u8)).toArray 5)
    have e : ((UInt8.ofNat xs[j].toNat).toNat : Int) = xs[j] := by rw [UInt8.toNat_ofNat']; omega
    simp only [List.getElem_map, e]
    have ea : (⟨w.heap.size, 0, none⟩ : Addr).add j = ⟨w.heap.size, j, none⟩ := by unfold Addr.add; by_cases h0 : j = 0 <;> simp [h0]
    rw [ea]
    simp only [World.cell?, hx]
    simp [hj'])
  rw [hl] at this
  exact this

set_option maxRecDepth 100000 in
set_option maxHeartbeats 1000000 in
theorem bytes10_calls (v : Nat) (hv : v ≤ 1114111) (w : World) : Calls Tryz.prog 114 #[.int .i64 v] w fun e w' => e = .returned (.string ⟨(Cx.enc v).toArray⟩) ∧ Below w.heap.size w w' := by
  by_cases h1 : v < 128
  · have he : Cx.enc v = [UInt8.ofNat (v)] := by unfold Cx.enc; rw [if_pos h1]
    rw [he]
    have i1 : (v : Int) < 128 := by omega
    have hc : (convert 61 9 (.slice (some ⟨w.heap.size, 0, none⟩) 1 1)).run Tryz.prog (w.alloc (.cells #[.int .u8 ((v : Int))] 5)) = .ok (.string ⟨#[UInt8.ofNat ((v : Int) : Int).toNat]⟩) (w.alloc (.cells #[.int .u8 ((v : Int))] 5)) := conv_bytes w [(v : Int)] (by simp; omega)
    clear he
    go_enter Tryz.func114, Tryz.ntmps114
    go_wp2
    go_ret
    exact ⟨ret_str rfl, (Below.refl _ w).alloc (Nat.le_refl _) _⟩
  have i1 : ¬ (v : Int) < 128 := by omega
  have d64 : (v : Int).tdiv 64 = (v : Int) / 64 := Int.tdiv_eq_ediv_of_nonneg (by omega)
  have m64 : (v : Int).tmod 64 = (v : Int) % 64 := Int.tmod_eq_emod_of_nonneg (by omega)
  by_cases h2 : v < 2048
  · have he : Cx.enc v = [UInt8.ofNat (192 + v / 64), UInt8.ofNat (128 + v % 64)] := by unfold Cx.enc; rw [if_neg h1, if_pos h2]
    rw [he]
    have i2 : (v : Int) < 2048 := by omega
    have hc : (convert 61 9 (.slice (some ⟨w.heap.size, 0, none⟩) 2 2)).run Tryz.prog (w.alloc (.cells #[.int .u8 (192 + (v : Int) / 64), .int .u8 (128 + (v : Int) % 64)] 5)) = .ok (.string ⟨#[UInt8.ofNat (192 + (v : Int) / 64 : Int).toNat, UInt8.ofNat (128 + (v : Int) % 64 : Int).toNat]⟩) (w.alloc (.cells #[.int .u8 (192 + (v : Int) / 64), .int .u8 (128 + (v : Int) % 64)] 5)) := conv_bytes w [192 + (v : Int) / 64, 128 + (v : Int) % 64] (by simp; omega)
    clear he
    go_enter Tryz.func114, Tryz.ntmps114
    go_wp2
    go_ret
    exact ⟨ret_str rfl, (Below.refl _ w).alloc (Nat.le_refl _) _⟩
  have i2 : ¬ (v : Int) < 2048 := by omega
  have d4096 : (v : Int).tdiv 4096 = (v : Int) / 4096 := Int.tdiv_eq_ediv_of_nonneg (by omega)
  have m2 : ((v : Int) / 64).tmod 64 = (v : Int) / 64 % 64 := Int.tmod_eq_emod_of_nonneg (by omega)
  by_cases h3 : v < 65536
  · have he : Cx.enc v = [UInt8.ofNat (224 + v / 4096), UInt8.ofNat (128 + v / 64 % 64), UInt8.ofNat (128 + v % 64)] := by unfold Cx.enc; rw [if_neg h1, if_neg h2, if_pos h3]
    rw [he]
    have i3 : (v : Int) < 65536 := by omega
    have hc : (convert 61 9 (.slice (some ⟨w.heap.size, 0, none⟩) 3 3)).run Tryz.prog (w.alloc (.cells #[.int .u8 (224 + (v : Int) / 4096), .int .u8 (128 + (v : Int) / 64 % 64), .int .u8 (128 + (v : Int) % 64)] 5)) = .ok (.string ⟨#[UInt8.ofNat (224 + (v : Int) / 4096 : Int).toNat, UInt8.ofNat (128 + (v : Int) / 64 % 64 : Int).toNat, UInt8.ofNat (128 + (v : Int) % 64 : Int).toNat]⟩) (w.alloc (.cells #[.int .u8 (224 + (v : Int) / 4096), .int .u8 (128 + (v : Int) / 64 % 64), .int .u8 (128 + (v : Int) % 64)] 5)) := conv_bytes w [224 + (v : Int) / 4096, 128 + (v : Int) / 64 % 64, 128 + (v : Int) % 64] (by simp; omega)
    clear he
    go_enter Tryz.func114, Tryz.ntmps114
    go_wp2
    go_ret
    exact ⟨ret_str rfl, (Below.refl _ w).alloc (Nat.le_refl _) _⟩
  have i3 : ¬ (v : Int) < 65536 := by omega
  have d26 : (v : Int).tdiv 262144 = (v : Int) / 262144 := Int.tdiv_eq_ediv_of_nonneg (by omega)
  have m3 : ((v : Int) / 4096).tmod 64 = (v : Int) / 4096 % 64 := Int.tmod_eq_emod_of_nonneg (by omega)
  have he : Cx.enc v = [UInt8.ofNat (240 + v / 262144), UInt8.ofNat (128 + v / 4096 % 64), UInt8.ofNat (128 + v / 64 % 64), UInt8.ofNat (128 + v % 64)] := by unfold Cx.enc; rw [if_neg h1, if_neg h2, if_neg h3]
  rw [he]
  skip
  have hc : (convert 61 9 (.slice (some ⟨w.heap.size, 0, none⟩) 4 4)).run Tryz.prog (w.alloc (.cells #[.int .u8 (240 + (v : Int) / 262144), .int .u8 (128 + (v : Int) / 4096 % 64), .int .u8 (128 + (v : Int) / 64 % 64), .int .u8 (128 + (v : Int) % 64)] 5)) = .ok (.string ⟨#[UInt8.ofNat (240 + (v : Int) / 262144 : Int).toNat, UInt8.ofNat (128 + (v : Int) / 4096 % 64 : Int).toNat, UInt8.ofNat (128 + (v : Int) / 64 % 64 : Int).toNat, UInt8.ofNat (128 + (v : Int) % 64 : Int).toNat]⟩) (w.alloc (.cells #[.int .u8 (240 + (v : Int) / 262144), .int .u8 (128 + (v : Int) / 4096 % 64), .int .u8 (128 + (v : Int) / 64 % 64), .int .u8 (128 + (v : Int) % 64)] 5)) := conv_bytes w [240 + (v : Int) / 262144, 128 + (v : Int) / 4096 % 64, 128 + (v : Int) / 64 % 64, 128 + (v : Int) % 64] (by simp; omega)
  clear he
  go_enter Tryz.func114, Tryz.ntmps114
  go_wp2
  go_ret
  exact ⟨ret_str rfl, (Below.refl _ w).alloc (Nat.le_refl _) _⟩


/-- What 'Rune' hands back. -/
def RunePost (l : List UInt8) (w : World) (e : Ending) (w' : World) : Prop :=
  Below w.heap.size w w' ∧ (Cx.runeLen l ≠ 0 → ∃ v : Int, 0 ≤ v ∧ e = .returned (.tuple #[.int .i64 v, .int .i64 (Cx.runeLen l)])) ∧ (Cx.runeLen l = 0 → e = .returned (.tuple #[.int .i64 (-1), .int .i64 (if l = [] then 0 else 1)]))

theorem below_dN2 {B : Nat} {w w' : World} (h : Below B w w') (n : Nat) : Below B w (w'.drewN n) := ⟨h.os, h.tape, h.output, h.size, h.block⟩
theorem runeV_bound (l : List UInt8) : ∀ v : Int, -300 ≤ v → v ≤ 300 → l.length ≤ 3 → -100000000 ≤ l.foldl Cx.rstep v ∧ l.foldl Cx.rstep v ≤ 100000000 := by
  intro v h1 h2 h3
  match l, h3 with
  | [], _ => simp only [List.foldl]; omega
  | [a], _ => have := a.toNat_lt; simp only [List.foldl, Cx.rstep]; omega
  | [a, b], _ => have := a.toNat_lt; have := b.toNat_lt; simp only [List.foldl, Cx.rstep]; omega
  | [a, b, c], _ => have := a.toNat_lt; have := b.toNat_lt; have := c.toNat_lt; simp only [List.foldl, Cx.rstep]; omega

set_option maxRecDepth 100000 in
set_option maxHeartbeats 4000000 in
theorem rune10_calls (s : ByteArray) (w : World) (hs : s.size ≤ maxLen) : Calls Tryz.prog 87 #[.string s] w (RunePost s.data.toList w) := by
  unfold maxLen at hs
  by_cases h0 : s.size = 0
  · have he : s = ⟨#[]⟩ := by
      apply ByteArray.ext
      apply Array.eq_empty_of_size_eq_zero
      exact h0
    subst he
    go_enter Tryz.func87, Tryz.ntmps87
    go_wp2
    go_ret2
    exact ⟨Below.refl _ _, fun h => absurd rfl h, fun _ => rfl⟩
  have hemp : s.toList.isEmpty = false := by
    rw [← decide_eq_emptyBytes]
    exact decide_eq_false (fun h => h0 (by rw [h]; rfl))
  have h0i : (0 : Int) < (s.size : Int) := by omega
  have hle := Cx.runeLen_le s.data.toList
  have HLE := Lib.hid hle
  clear hle
  go_enter Tryz.func87, Tryz.ntmps87
  go_wp2
  go_loopg [4] 5 (fun q x wr => ∃ n : Nat, x = .int .i64 n ∧ q = 6 - n ∧ 1 ≤ n ∧ n ≤ 5 ∧ (n = 5 ∨ n ≤ s.size + 1) ∧ Hid (∀ k, 1 ≤ k → k < n → Cx.runeLen s.data.toList ≠ k) ∧ Hid (Below w.heap.size w wr))
  case atStart => exact ⟨1, rfl, rfl, by omega, by omega, by omega, Lib.hid (fun k h1 h2 => by omega), Lib.hid (Below.refl _ _)⟩
  case round =>
    obtain ⟨n, rfl, hq, hn1, hn5, hns, HK, HB⟩ := hrel
    have HQ := Lib.hid hq
    clear hq
    by_cases hin : n ≤ 4 ∧ n ≤ s.size
    · obtain ⟨hn4, hnl⟩ := hin
      obtain ⟨a, ha⟩ : ∃ a, a = s[0]'(by omega) := ⟨_, rfl⟩
      have hc0 : ((s[0]'(by omega)).toNat : Int) = (a.toNat : Int) := by rw [ha]
      have ha256 := a.toNat_lt
      obtain ⟨r, hr⟩ : ∃ r, s.data.toList = a :: r := by
        cases hx : s.data.toList with
        | nil => exact absurd (show s.size = 0 from by have := congrArg List.length hx; simpa using this) h0
        | cons c r =>
          refine ⟨r, ?_⟩
          have : s.data.toList[0]? = some (s[0]'(by omega)) := List.getElem?_eq_getElem (show 0 < s.data.toList.length from by show 0 < s.size; omega)
          rw [hx] at this
          simp only [List.getElem?_cons_zero, Option.some.injEq] at this
          rw [ha, this]
      have HR := Lib.hid hr
      have HN := Lib.hid (Cx.rune_n s.data.toList n hn1 hn4 hnl)
      have hnI : (n : Int) ≤ (s.size : Int) := by omega
      clear hr hns hn5 ha
      have hcases : n = 1 ∨ n = 2 ∨ n = 3 ∨ n = 4 := by omega
      have hget : ∀ k, 1 ≤ k → ∀ h : k < s.size, r[k - 1]? = some s[k] := by
        intro k hk h
        have h1 : s.data.toList[k]? = some s[k] := List.getElem?_eq_getElem (show k < s.data.toList.length from h)
        rw [HR.out] at h1
        obtain ⟨j, rfl⟩ : ∃ j, k = j + 1 := ⟨k - 1, by omega⟩
        simpa using h1
      have HG := Lib.hid hget
      clear hget
      rcases hcases with rfl | rfl | rfl | rfl
      · go_wp2_with fail
        go_loop [5, 6] (fun vv vi => ∃ (v : Int) (k : Nat), vv = .int .i64 v ∧ vi = .int .i64 k ∧ 1 ≤ k ∧ k ≤ 1 ∧ Hid (v = (r.take (k - 1)).foldl Cx.rstep (Cx.rbase 1 a))) (fun _ vi => 1 - (intOf vi).toNat)
        case atStart => exact ⟨_, 1, rfl, rfl, by omega, by omega, Lib.hid (by simp [Cx.rbase])⟩
        case round =>
          obtain ⟨v, k, rfl, rfl, hk1, hkn, HV⟩ := hrel
          have hbd := runeV_bound (r.take (k - 1)) (Cx.rbase 1 a) (by simp [Cx.rbase] <;> omega) (by simp [Cx.rbase] <;> omega) (by simp; omega)
          rw [← HV.out] at hbd
          rcases Nat.lt_or_ge k 1 with hlt | hge
          · omega
          · have hkk : k = 1 := by omega
            subst hkk
            have hv : v = Cx.runeV 1 s.data.toList := by rw [HV.out, HR.out]; rfl
            have HVV := Lib.hid hv
            clear hv hge
            go_wp2_with fail
            refine (is10_calls v _).mono ?_
            rintro e w3 ⟨rfl, hw3⟩
            subst hw3
            by_cases hru : Cx.isRune v = true
            · rw [hru]
              obtain ⟨vn, rfl⟩ : ∃ vn : Nat, v = (vn : Int) := ⟨v.toNat, by have := Cx.isRune_iff.1 hru; omega⟩
              have hvn : vn ≤ 1114111 := by have := Cx.isRune_iff.1 hru; omega
              have hiff : Cx.enc vn = s.data.toList.take 1 ↔ Cx.runeLen s.data.toList = 1 := by
                have := HN.out
                rw [← HVV.out, hru] at this
                simpa using this
              have HI := Lib.hid hiff
              clear hiff hru
              go_wp2_with fail
              go_region_held3 (fun _ => True) (first | trivial) (first | (go_at_call 114; refine (bytes10_calls vn hvn _).mono ?_; rintro e w7 ⟨rfl, hb7⟩))
              have hex : (s.extract 0 1).toList = s.data.toList.take 1 := by rw [extract_list]; simp
              have HB7 := Lib.hid (HB.out.drew.trans (hb7.mono HB.out.size))
              clear hb7
              have HEX := Lib.hid hex
              clear hex
              go_wp2_with fail
              · have h' : (Cx.enc vn == (s.extract 0 1).toList) = true := by assumption
                have hR : Cx.runeLen s.data.toList = 1 := HI.out.1 (by rw [HEX.out] at h'; simpa using h')
                go_ret2
                exact ⟨HB7.out, fun _ => ⟨vn, by omega, by rw [hR]; rfl⟩, fun h => by rw [hR] at h; cases h⟩
              · have h' : (Cx.enc vn == (s.extract 0 1).toList) = false := by assumption
                have hR : Cx.runeLen s.data.toList ≠ 1 := fun h => by rw [HEX.out, HI.out.2 h] at h'; simp at h'
                go_roundg (4)
                case measure => have := HQ.out; omega
                case rel => exact ⟨1 + 1, by go_num, rfl, by omega, by omega, by omega, Lib.hid (fun k' h1 h2 => by rcases Nat.lt_or_ge k' 1 with g | g; exact HK.out k' h1 g; rw [show k' = 1 by omega]; exact hR), HB7⟩
            · have hrf : Cx.isRune v = false := by simpa using hru
              rw [hrf]
              have hno : Cx.runeLen s.data.toList ≠ 1 := fun h => by
                have := HN.out.2 h
                rw [← HVV.out] at this
                exact hru this.1
              have HNO := Lib.hid hno
              clear hno hru hrf
              go_wp2_with fail
              go_quiet (fail)
              go_wp2_with fail
              go_roundg (4)
              case measure => have := HQ.out; omega
              case rel => exact ⟨1 + 1, by go_num, rfl, by omega, by omega, by omega, Lib.hid (fun k' h1 h2 => by rcases Nat.lt_or_ge k' 1 with g | g; exact HK.out k' h1 g; rw [show k' = 1 by omega]; exact HNO.out), Lib.hid (below_dN2 HB.out _)⟩
      · go_wp2_with fail
        go_loop [5, 6] (fun vv vi => ∃ (v : Int) (k : Nat), vv = .int .i64 v ∧ vi = .int .i64 k ∧ 1 ≤ k ∧ k ≤ 2 ∧ Hid (v = (r.take (k - 1)).foldl Cx.rstep (Cx.rbase 2 a))) (fun _ vi => 2 - (intOf vi).toNat)
        case atStart => exact ⟨_, 1, rfl, rfl, by omega, by omega, Lib.hid (by simp [Cx.rbase])⟩
        case round =>
          obtain ⟨v, k, rfl, rfl, hk1, hkn, HV⟩ := hrel
          have hbd := runeV_bound (r.take (k - 1)) (Cx.rbase 2 a) (by simp [Cx.rbase] <;> omega) (by simp [Cx.rbase] <;> omega) (by simp; omega)
          rw [← HV.out] at hbd
          rcases Nat.lt_or_ge k 2 with hlt | hge
          · have hks : k < s.size := by omega
            have hnext : (r.take k).foldl Cx.rstep (Cx.rbase 2 a) = 64 * v + (s[k].toNat : Int) - 128 := by
              rw [show r.take k = r.take (k - 1) ++ [s[k]] from by
                conv => lhs; rw [show k = (k - 1) + 1 by omega, List.take_add_one, HG.out k hk1 hks]
                rfl]
              rw [List.foldl_append, ← HV.out]; rfl
            have HX := Lib.hid hnext
            clear hnext
            have h256 := (s[k]).toNat_lt
            go_wp2_with fail
            go_round
            case rel => exact ⟨_, k + 1, rfl, by go_num, by omega, by omega, Lib.hid (by rw [show k + 1 - 1 = k from rfl, HX.out])⟩
            case measure => simp [intOf]; omega
          · have hkk : k = 2 := by omega
            subst hkk
            have hv : v = Cx.runeV 2 s.data.toList := by rw [HV.out, HR.out]; rfl
            have HVV := Lib.hid hv
            clear hv hge
            go_wp2_with fail
            refine (is10_calls v _).mono ?_
            rintro e w3 ⟨rfl, hw3⟩
            subst hw3
            by_cases hru : Cx.isRune v = true
            · rw [hru]
              obtain ⟨vn, rfl⟩ : ∃ vn : Nat, v = (vn : Int) := ⟨v.toNat, by have := Cx.isRune_iff.1 hru; omega⟩
              have hvn : vn ≤ 1114111 := by have := Cx.isRune_iff.1 hru; omega
              have hiff : Cx.enc vn = s.data.toList.take 2 ↔ Cx.runeLen s.data.toList = 2 := by
                have := HN.out
                rw [← HVV.out, hru] at this
                simpa using this
              have HI := Lib.hid hiff
              clear hiff hru
              go_wp2_with fail
              go_region_held3 (fun _ => True) (first | trivial) (first | (go_at_call 114; refine (bytes10_calls vn hvn _).mono ?_; rintro e w7 ⟨rfl, hb7⟩))
              have hex : (s.extract 0 2).toList = s.data.toList.take 2 := by rw [extract_list]; simp
              have HB7 := Lib.hid (HB.out.drew.trans (hb7.mono HB.out.size))
              clear hb7
              have HEX := Lib.hid hex
              clear hex
              go_wp2_with fail
              · have h' : (Cx.enc vn == (s.extract 0 2).toList) = true := by assumption
                have hR : Cx.runeLen s.data.toList = 2 := HI.out.1 (by rw [HEX.out] at h'; simpa using h')
                go_ret2
                exact ⟨HB7.out, fun _ => ⟨vn, by omega, by rw [hR]; rfl⟩, fun h => by rw [hR] at h; cases h⟩
              · have h' : (Cx.enc vn == (s.extract 0 2).toList) = false := by assumption
                have hR : Cx.runeLen s.data.toList ≠ 2 := fun h => by rw [HEX.out, HI.out.2 h] at h'; simp at h'
                go_roundg (3)
                case measure => have := HQ.out; omega
                case rel => exact ⟨2 + 1, by go_num, rfl, by omega, by omega, by omega, Lib.hid (fun k' h1 h2 => by rcases Nat.lt_or_ge k' 2 with g | g; exact HK.out k' h1 g; rw [show k' = 2 by omega]; exact hR), HB7⟩
            · have hrf : Cx.isRune v = false := by simpa using hru
              rw [hrf]
              have hno : Cx.runeLen s.data.toList ≠ 2 := fun h => by
                have := HN.out.2 h
                rw [← HVV.out] at this
                exact hru this.1
              have HNO := Lib.hid hno
              clear hno hru hrf
              go_wp2_with fail
              go_quiet (fail)
              go_wp2_with fail
              go_roundg (3)
              case measure => have := HQ.out; omega
              case rel => exact ⟨2 + 1, by go_num, rfl, by omega, by omega, by omega, Lib.hid (fun k' h1 h2 => by rcases Nat.lt_or_ge k' 2 with g | g; exact HK.out k' h1 g; rw [show k' = 2 by omega]; exact HNO.out), Lib.hid (below_dN2 HB.out _)⟩
      · go_wp2_with fail
        go_loop [5, 6] (fun vv vi => ∃ (v : Int) (k : Nat), vv = .int .i64 v ∧ vi = .int .i64 k ∧ 1 ≤ k ∧ k ≤ 3 ∧ Hid (v = (r.take (k - 1)).foldl Cx.rstep (Cx.rbase 3 a))) (fun _ vi => 3 - (intOf vi).toNat)
        case atStart => exact ⟨_, 1, rfl, rfl, by omega, by omega, Lib.hid (by simp [Cx.rbase])⟩
        case round =>
          obtain ⟨v, k, rfl, rfl, hk1, hkn, HV⟩ := hrel
          have hbd := runeV_bound (r.take (k - 1)) (Cx.rbase 3 a) (by simp [Cx.rbase] <;> omega) (by simp [Cx.rbase] <;> omega) (by simp; omega)
          rw [← HV.out] at hbd
          rcases Nat.lt_or_ge k 3 with hlt | hge
          · have hks : k < s.size := by omega
            have hnext : (r.take k).foldl Cx.rstep (Cx.rbase 3 a) = 64 * v + (s[k].toNat : Int) - 128 := by
              rw [show r.take k = r.take (k - 1) ++ [s[k]] from by
                conv => lhs; rw [show k = (k - 1) + 1 by omega, List.take_add_one, HG.out k hk1 hks]
                rfl]
              rw [List.foldl_append, ← HV.out]; rfl
            have HX := Lib.hid hnext
            clear hnext
            have h256 := (s[k]).toNat_lt
            go_wp2_with fail
            go_round
            case rel => exact ⟨_, k + 1, rfl, by go_num, by omega, by omega, Lib.hid (by rw [show k + 1 - 1 = k from rfl, HX.out])⟩
            case measure => simp [intOf]; omega
          · have hkk : k = 3 := by omega
            subst hkk
            have hv : v = Cx.runeV 3 s.data.toList := by rw [HV.out, HR.out]; rfl
            have HVV := Lib.hid hv
            clear hv hge
            go_wp2_with fail
            refine (is10_calls v _).mono ?_
            rintro e w3 ⟨rfl, hw3⟩
            subst hw3
            by_cases hru : Cx.isRune v = true
            · rw [hru]
              obtain ⟨vn, rfl⟩ : ∃ vn : Nat, v = (vn : Int) := ⟨v.toNat, by have := Cx.isRune_iff.1 hru; omega⟩
              have hvn : vn ≤ 1114111 := by have := Cx.isRune_iff.1 hru; omega
              have hiff : Cx.enc vn = s.data.toList.take 3 ↔ Cx.runeLen s.data.toList = 3 := by
                have := HN.out
                rw [← HVV.out, hru] at this
                simpa using this
              have HI := Lib.hid hiff
              clear hiff hru
              go_wp2_with fail
              go_region_held3 (fun _ => True) (first | trivial) (first | (go_at_call 114; refine (bytes10_calls vn hvn _).mono ?_; rintro e w7 ⟨rfl, hb7⟩))
              have hex : (s.extract 0 3).toList = s.data.toList.take 3 := by rw [extract_list]; simp
              have HB7 := Lib.hid (HB.out.drew.trans (hb7.mono HB.out.size))
              clear hb7
              have HEX := Lib.hid hex
              clear hex
              go_wp2_with fail
              · have h' : (Cx.enc vn == (s.extract 0 3).toList) = true := by assumption
                have hR : Cx.runeLen s.data.toList = 3 := HI.out.1 (by rw [HEX.out] at h'; simpa using h')
                go_ret2
                exact ⟨HB7.out, fun _ => ⟨vn, by omega, by rw [hR]; rfl⟩, fun h => by rw [hR] at h; cases h⟩
              · have h' : (Cx.enc vn == (s.extract 0 3).toList) = false := by assumption
                have hR : Cx.runeLen s.data.toList ≠ 3 := fun h => by rw [HEX.out, HI.out.2 h] at h'; simp at h'
                go_roundg (2)
                case measure => have := HQ.out; omega
                case rel => exact ⟨3 + 1, by go_num, rfl, by omega, by omega, by omega, Lib.hid (fun k' h1 h2 => by rcases Nat.lt_or_ge k' 3 with g | g; exact HK.out k' h1 g; rw [show k' = 3 by omega]; exact hR), HB7⟩
            · have hrf : Cx.isRune v = false := by simpa using hru
              rw [hrf]
              have hno : Cx.runeLen s.data.toList ≠ 3 := fun h => by
                have := HN.out.2 h
                rw [← HVV.out] at this
                exact hru this.1
              have HNO := Lib.hid hno
              clear hno hru hrf
              go_wp2_with fail
              go_quiet (fail)
              go_wp2_with fail
              go_roundg (2)
              case measure => have := HQ.out; omega
              case rel => exact ⟨3 + 1, by go_num, rfl, by omega, by omega, by omega, Lib.hid (fun k' h1 h2 => by rcases Nat.lt_or_ge k' 3 with g | g; exact HK.out k' h1 g; rw [show k' = 3 by omega]; exact HNO.out), Lib.hid (below_dN2 HB.out _)⟩
      · go_wp2_with fail
        go_loop [5, 6] (fun vv vi => ∃ (v : Int) (k : Nat), vv = .int .i64 v ∧ vi = .int .i64 k ∧ 1 ≤ k ∧ k ≤ 4 ∧ Hid (v = (r.take (k - 1)).foldl Cx.rstep (Cx.rbase 4 a))) (fun _ vi => 4 - (intOf vi).toNat)
        case atStart => exact ⟨_, 1, rfl, rfl, by omega, by omega, Lib.hid (by simp [Cx.rbase])⟩
        case round =>
          obtain ⟨v, k, rfl, rfl, hk1, hkn, HV⟩ := hrel
          have hbd := runeV_bound (r.take (k - 1)) (Cx.rbase 4 a) (by simp [Cx.rbase] <;> omega) (by simp [Cx.rbase] <;> omega) (by simp; omega)
          rw [← HV.out] at hbd
          rcases Nat.lt_or_ge k 4 with hlt | hge
          · have hks : k < s.size := by omega
            have hnext : (r.take k).foldl Cx.rstep (Cx.rbase 4 a) = 64 * v + (s[k].toNat : Int) - 128 := by
              rw [show r.take k = r.take (k - 1) ++ [s[k]] from by
                conv => lhs; rw [show k = (k - 1) + 1 by omega, List.take_add_one, HG.out k hk1 hks]
                rfl]
              rw [List.foldl_append, ← HV.out]; rfl
            have HX := Lib.hid hnext
            clear hnext
            have h256 := (s[k]).toNat_lt
            go_wp2_with fail
            go_round
            case rel => exact ⟨_, k + 1, rfl, by go_num, by omega, by omega, Lib.hid (by rw [show k + 1 - 1 = k from rfl, HX.out])⟩
            case measure => simp [intOf]; omega
          · have hkk : k = 4 := by omega
            subst hkk
            have hv : v = Cx.runeV 4 s.data.toList := by rw [HV.out, HR.out]; rfl
            have HVV := Lib.hid hv
            clear hv hge
            go_wp2_with fail
            refine (is10_calls v _).mono ?_
            rintro e w3 ⟨rfl, hw3⟩
            subst hw3
            by_cases hru : Cx.isRune v = true
            · rw [hru]
              obtain ⟨vn, rfl⟩ : ∃ vn : Nat, v = (vn : Int) := ⟨v.toNat, by have := Cx.isRune_iff.1 hru; omega⟩
              have hvn : vn ≤ 1114111 := by have := Cx.isRune_iff.1 hru; omega
              have hiff : Cx.enc vn = s.data.toList.take 4 ↔ Cx.runeLen s.data.toList = 4 := by
                have := HN.out
                rw [← HVV.out, hru] at this
                simpa using this
              have HI := Lib.hid hiff
              clear hiff hru
              go_wp2_with fail
              go_region_held3 (fun _ => True) (first | trivial) (first | (go_at_call 114; refine (bytes10_calls vn hvn _).mono ?_; rintro e w7 ⟨rfl, hb7⟩))
              have hex : (s.extract 0 4).toList = s.data.toList.take 4 := by rw [extract_list]; simp
              have HB7 := Lib.hid (HB.out.drew.trans (hb7.mono HB.out.size))
              clear hb7
              have HEX := Lib.hid hex
              clear hex
              go_wp2_with fail
              · have h' : (Cx.enc vn == (s.extract 0 4).toList) = true := by assumption
                have hR : Cx.runeLen s.data.toList = 4 := HI.out.1 (by rw [HEX.out] at h'; simpa using h')
                go_ret2
                exact ⟨HB7.out, fun _ => ⟨vn, by omega, by rw [hR]; rfl⟩, fun h => by rw [hR] at h; cases h⟩
              · have h' : (Cx.enc vn == (s.extract 0 4).toList) = false := by assumption
                have hR : Cx.runeLen s.data.toList ≠ 4 := fun h => by rw [HEX.out, HI.out.2 h] at h'; simp at h'
                go_roundg (1)
                case measure => have := HQ.out; omega
                case rel => exact ⟨4 + 1, by go_num, rfl, by omega, by omega, by omega, Lib.hid (fun k' h1 h2 => by rcases Nat.lt_or_ge k' 4 with g | g; exact HK.out k' h1 g; rw [show k' = 4 by omega]; exact hR), HB7⟩
            · have hrf : Cx.isRune v = false := by simpa using hru
              rw [hrf]
              have hno : Cx.runeLen s.data.toList ≠ 4 := fun h => by
                have := HN.out.2 h
                rw [← HVV.out] at this
                exact hru this.1
              have HNO := Lib.hid hno
              clear hno hru hrf
              go_wp2_with fail
              go_quiet (fail)
              go_wp2_with fail
              go_roundg (1)
              case measure => have := HQ.out; omega
              case rel => exact ⟨4 + 1, by go_num, rfl, by omega, by omega, by omega, Lib.hid (fun k' h1 h2 => by rcases Nat.lt_or_ge k' 4 with g | g; exact HK.out k' h1 g; rw [show k' = 4 by omega]; exact HNO.out), Lib.hid (below_dN2 HB.out _)⟩
    · have hr0 : Cx.runeLen s.data.toList = 0 := by
        rcases Nat.eq_zero_or_pos (Cx.runeLen s.data.toList) with h | h
        · exact h
        · exfalso
          have h1 := HLE.out
          have h2 : s.data.toList.length = s.size := rfl
          exact HK.out _ h (by omega) rfl
      have HR0 := Lib.hid hr0
      clear hr0
      have hend : n = 5 ∨ (n ≤ 4 ∧ n = s.size + 1) := by omega
      have hne : s.data.toList ≠ [] := fun h => h0 (by have := congrArg List.length h; simpa using this)
      have HNE := Lib.hid hne
      clear hne hin hns
      rcases hend with rfl | ⟨hn4, hn⟩
      · go_wp2_with fail
        go_ret2
        exact ⟨HB.out, fun h => absurd HR0.out h, fun _ => by rw [if_neg HNE.out]; rfl⟩
      · have hnI : ¬ (n : Int) ≤ (s.size : Int) := by omega
        go_wp2_with fail
        go_ret2
        exact ⟨HB.out, fun h => absurd HR0.out h, fun _ => by rw [if_neg HNE.out]; rfl⟩
end Go.Proofs.YtbdmepilmoomeaaGreatDoor

namespace Go.Proofs.YtbdmepilmoomeaaGreatDoor
open Go.RowKit

theorem u8ne {c k : UInt8} (h : c ≠ k) : ((c.toNat : Int) == (k.toNat : Int)) = false := by
  rw [beq_eq_false_iff_ne]; intro e; exact h (UInt8.toNat_inj.1 (by omega))

/-- How far a number is read, or that the reader is in its fault; the result's box is as it was. -/
structure NS (b B : Nat) (s : ByteArray) (i : Nat) (m : Int) (w : World) (r : Cx.Res Nat) (wr : World) : Prop where
  mv : Mv b w wr
  base : B = w.heap.size
  box : wr.heap[B]? = some (.cells zeroJ 26 (0, 0))
  st : (∃ c : Nat, r = .ok c ∧ i ≤ c ∧ c ≤ s.size ∧ R2 b s c m 0 0 wr) ∨ (∃ (x : Nat × Nat) (j : Nat), r = .error x ∧ x.1 ≠ 0 ∧ i ≤ j ∧ j ≤ s.size ∧ R2 b s j m x.1 x.2 wr)
theorem NS.ok {b B : Nat} {s : ByteArray} {i : Nat} {m : Int} {w : World} {r : Cx.Res Nat} {wr w' : World} {r' : Cx.Res Nat} {c : Nat} (h : NS b B s i m w r wr) (hb : b < B) (k : Mv b wr w') (hr : r' = .ok c) (h1 : i ≤ c) (h2 : c ≤ s.size) (h3 : R2 b s c m 0 0 w') : NS b B s i m w r' w' :=
  ⟨h.mv.trans k, h.base, k.heap h.box (by omega), .inl ⟨c, hr, h1, h2, h3⟩⟩
theorem NS.bad {b B : Nat} {s : ByteArray} {i : Nat} {m : Int} {w : World} {r : Cx.Res Nat} {wr w' : World} {r' : Cx.Res Nat} {x : Nat × Nat} {j : Nat} (h : NS b B s i m w r wr) (hb : b < B) (k : Mv b wr w') (hr : r' = .error x) (hx : x.1 ≠ 0) (h1 : i ≤ j) (h2 : j ≤ s.size) (h3 : R2 b s j m x.1 x.2 w') : NS b B s i m w r' w' :=
  ⟨h.mv.trans k, h.base, k.heap h.box (by omega), .inr ⟨x, j, hr, hx, h1, h2, h3⟩⟩
/-- .. one stage behind another. -/
def thenR (r : Cx.Res Nat) (f : Nat → Cx.Res Nat) : Cx.Res Nat := match r with | .error e => .error e | .ok a => f a
theorem number_stages (s : List UInt8) (i : Nat) : Cx.number s i = thenR (thenR (thenR (Cx.numInt s (Cx.opt s [45] i)) (Cx.numFrac s)) (Cx.numExp s)) (fun c => if c - i > 40 then .error (5, i) else .ok c) := by
  unfold Cx.number thenR
  cases Cx.numInt s (Cx.opt s [45] i) with
  | error e => rfl
  | ok a =>
    simp only
    cases Cx.numFrac s a with
    | error e => rfl
    | ok c =>
      simp only
      cases Cx.numExp s c <;> rfl

theorem NS.rd {b B : Nat} {s : ByteArray} {i : Nat} {m : Int} {w : World} {c : Nat} {wr : World} (h : NS b B s i m w (.ok c) wr) : i ≤ c ∧ c ≤ s.size ∧ R2 b s c m 0 0 wr := by
  rcases h.st with ⟨c', hc, h1, h2, h3⟩ | ⟨x, j, hx, _⟩
  · injection hc with hc; subst hc; exact ⟨h1, h2, h3⟩
  · cases hx
theorem NS.fin {b B : Nat} {s : ByteArray} {i : Nat} {m : Int} {w : World} {r : Cx.Res Nat} {wr w' : World} (h : NS b B s i m w r wr) (hb : b < B) (k : Mv b wr w') (t : Value) {j e p : Int} (hr : R2 b s j m e p w') :
    w'.heap[B]? = some (.cells zeroJ 26 (0, 0)) ∧ Mv b w (put5 w' B (.int .i64 3) (.bool false) t (.slice none 0 0) (.slice none 0 0)) ∧ R2 b s j m e p (put5 w' B (.int .i64 3) (.bool false) t (.slice none 0 0) (.slice none 0 0)) := by
  have hB := h.base
  refine ⟨k.heap h.box (by omega), put5_mv (h.mv.trans k) (by omega), ?_⟩
  unfold R2; rw [put5_other (by omega)]; exact hr

/-- What 'number' hands back. -/
def NumAt (b : Nat) (s : ByteArray) (i : Nat) (m : Int) (j : Nat) (e : Ending) (w' : World) : Prop :=
  e = .returned (.agg #[.int .i64 3, .bool false, .string ⟨((s.data.toList.drop i).take (j - i)).toArray⟩, .slice none 0 0, .slice none 0 0]) ∧ R2 b s j m 0 0 w'
def NumBad (e : Ending) (_ : World) : Prop := ∃ t : List UInt8, e = .returned (.agg #[.int .i64 3, .bool false, .string ⟨t.toArray⟩, .slice none 0 0, .slice none 0 0])

theorem next_mv (s : ByteArray) (i : Nat) (m y p : Int) (b : Nat) (w : World) (h : R2 b s i m y p w) (hs : s.size ≤ maxLen) :
    Calls Tryz.prog 54 #[.pointer (some ⟨b, 0, none⟩)] w fun e w' => e = .returned (.int .u8 (Cx.peek s.data.toList i).toNat) ∧ R2 b s i m y p w' ∧ Mv b w w' := by
  refine (next_calls s i m y p b w h hs).mono ?_
  rintro e w' ⟨rfl, n, rfl⟩
  exact ⟨rfl, h.drewN n, (Mv.refl b w).drewN n⟩

set_option maxRecDepth 100000 in
set_option maxHeartbeats 4000000 in
theorem number2_calls (s : ByteArray) (i : Nat) (m : Int) (b : Nat) (w : World) (h : R2 b s i m 0 0 w) (hle : i ≤ s.size) (hs : s.size ≤ maxLen) :
    Calls Tryz.prog 59 #[.pointer (some ⟨b, 0, none⟩)] w (RG (Cx.number s.data.toList i) (NumAt b s i m) NumBad b s w) := by
  have hs' := hs
  have hbl := h.lt
  unfold maxLen at hs
  obtain ⟨B, hB⟩ : ∃ B, B = w.heap.size := ⟨_, rfl⟩
  have hbB : b < B := by omega
  obtain ⟨w1, hw1⟩ : ∃ w1, w1 = w.alloc (.cells #[.int .i64 0, .bool false, .string ⟨#[]⟩, .slice none 0 0, .slice none 0 0] 26) := ⟨_, rfl⟩
  have hrd1 : R2 b s i m 0 0 w1 := by rw [hw1]; exact h.alloc _
  have hbox1 : w1.heap[B]? = some (.cells zeroJ 26 (0, 0)) := by rw [hw1, hB]; exact heap_alloc_new w _
  have hmv1 : Mv b w w1 := by rw [hw1]; exact (Mv.refl b w).alloc _
  have c1 := hrd1.c1
  rw [hw1] at c1
  have RD := Lib.hid hrd1; have MV := Lib.hid hmv1; have BX := Lib.hid hbox1; have HB := Lib.hid hB; have HW1 := Lib.hid hw1
  clear h hrd1 hmv1 hbox1 hbl hB hw1
  go_enter Tryz.func59, Tryz.ntmps59
  go_wp2_with fail
  rw [← HW1.out, ← HB.out]
  refine (next_calls s i m 0 0 b _ RD.out hs').mono ?_
  rintro e w2 ⟨rfl, n, hw2⟩
  have RD2 : Hid (R2 b s i m 0 0 w2) := Lib.hid (by rw [hw2]; exact RD.out.drewN n)
  have MV2 : Hid (Mv b w w2) := Lib.hid (by rw [hw2]; exact MV.out.drewN n)
  have BX2 : Hid (w2.heap[B]? = some (.cells zeroJ 26 (0, 0))) := Lib.hid (by rw [hw2]; exact BX.out)
  clear hw2 c1
  go_upto_if 10 with fail
  go_cut [2, 3] (fun y x wr => y = .pointer (some ⟨B, 0, none⟩) ∧ x = .int .i64 i ∧ ∃ p : Nat, p = Cx.opt s.data.toList [45] i ∧ i ≤ p ∧ p ≤ s.size ∧ Hid (NS b B s i m w (.ok p) wr))
  case first =>
    by_cases h45 : Cx.peek s.data.toList i = 45
    · have hlt : i < s.size := Cx.peek_lt (s := s.data.toList) (by rw [h45]; decide)
      have q1 := RD2.out.c1; have qf := RD2.out.fr 1
      rw [h45]
      have ho : i + 1 = Cx.opt s.data.toList [45] i := by rw [opt_in]; simp [h45]
      have HO := Lib.hid ho
      clear h45 ho
      go_wp2_with fail
      go_meet
      case rel => exact ⟨by rw [HB.out], rfl, i + 1, HO.out, by omega, by omega, Lib.hid ⟨MV2.out.set (.inl rfl) _, HB.out, by rw [Below.heap_setCell _ _ _ _ (by show B ≠ b; omega)]; exact BX2.out, .inl ⟨i + 1, rfl, by omega, by omega, RD2.out.set1 _⟩⟩⟩
    · have n45 : (((Cx.peek s.data.toList i).toNat : Int) == 45) = false := u8ne (k := 45) h45
      have ho : i = Cx.opt s.data.toList [45] i := by rw [opt_out]; simpa using h45
      have HO := Lib.hid ho
      clear h45 ho
      go_wp2_with fail
      go_meet
      case rel => exact ⟨by rw [HB.out], rfl, i, HO.out, by omega, by omega, Lib.hid ⟨MV2.out, HB.out, BX2.out, .inl ⟨i, rfl, by omega, by omega, RD2.out⟩⟩⟩
  case rest =>
    obtain ⟨rfl, rfl, p, hp, hip, hpl, N1⟩ := hcut
    have HP := Lib.hid hp
    clear hp RD2 MV2 BX2 RD MV BX
    obtain ⟨c, hc, _, _, hrd⟩ | ⟨x, j, hx, _⟩ := N1.out.st
    rotate_left
    · cases hx
    injection hc with hc
    subst hc
    have RDP := Lib.hid hrd
    clear hrd
    -- the digits ahead
    go_upto_if 20 with (go_at_call 54; refine (next_mv s p m 0 0 b _ RDP.out hs').mono ?_; rintro e w3 ⟨rfl, k1, k2⟩)
    have RD3 := Lib.hid k1
    have N3 : Hid (NS b B s i m w (.ok p) w3) := Lib.hid (N1.out.ok hbB k2 rfl hip hpl k1)
    clear k1 k2
    go_cut [2, 3] (fun y x wr => y = .pointer (some ⟨B, 0, none⟩) ∧ x = .int .i64 i ∧ Hid (NS b B s i m w (Cx.numInt s.data.toList p) wr))
    case first =>
      by_cases h48 : Cx.peek s.data.toList p = 48
      · have hlt : p < s.size := Cx.peek_lt (s := s.data.toList) (by rw [h48]; decide)
        have q1 := RD3.out.c1; have qf := RD3.out.fr 1
        rw [h48]
        have ho : Cx.numInt s.data.toList p = .ok (p + 1) := by unfold Cx.numInt; rw [opt_in (by simp [h48]), if_neg (by omega)]
        have HO := Lib.hid ho
        clear h48 ho
        go_wp2_with fail
        go_meet
        case rel => exact ⟨rfl, rfl, Lib.hid (N3.out.ok hbB ((Mv.refl b _).set (.inl rfl) _) HO.out (by omega) (by omega) (RD3.out.set1 _))⟩
      · have n48 : (((Cx.peek s.data.toList p).toNat : Int) == 48) = false := u8ne (k := 48) h48
        have ho : Cx.numInt s.data.toList p = Cx.digits s.data.toList p := by unfold Cx.numInt; rw [opt_out (by simpa using h48), if_pos rfl]
        have HO := Lib.hid ho
        clear h48 ho
        go_wp2_with fail
        refine (row_calls s p m b _ RD3.out hpl hs').mono ?_
        rintro e w4 ⟨rfl, hm4, hr4⟩
        have M4 := Lib.hid hm4; have R4 := Lib.hid hr4
        clear hm4 hr4
        go_wp2_with fail
        go_meet
        case rel =>
          refine ⟨rfl, rfl, Lib.hid ?_⟩
          rcases R4.out with ⟨hd, hr⟩ | ⟨hd, hr⟩
          · exact N3.out.ok hbB M4.out (HO.out.trans hd) (Nat.le_trans hip Cx.skipD_le) (Cx.skipD_len (s := s.data.toList) hpl) hr
          · exact N3.out.bad hbB M4.out (HO.out.trans hd) (show (7 : Nat) ≠ 0 by decide) hip hpl hr
    case rest =>
    obtain ⟨rfl, rfl, NA⟩ := hcut
    clear N1 N3 RDP RD3
    rcases NA.out.st with hst | hst
    rotate_left
    · obtain ⟨x, j, hx, hx1, hij, hjl, hrd⟩ := hst
      have hx0 : ((x.1 : Int) == 0) = false := by rw [beq_eq_false_iff_ne]; omega
      have RDX := Lib.hid hrd
      have HX := Lib.hid hx; have HX1 := Lib.hid hx1
      have q0 := hrd.c0; have q1 := hrd.c1
      obtain ⟨r0, r1, r2, r3, r4, rf⟩ := cells5 NA.out.box
      have rf0 := rf 0; have rf1 := rf 1; have rf2 := rf 2; have rf3 := rf 3; have rf4 := rf 4
      have nb : b ≠ B := by omega
      clear rf
      clear hx hx1 hrd
      go_wp2_with (go_at_call 30; refine (ok_calls s _ m _ _ b _ RDX.out).mono ?_; rintro e w' ⟨rfl, hw'⟩; rw [hx0]; subst hw')
      obtain ⟨hbx, hmv, hrr⟩ := NA.out.fin hbB (Mv.refl b _) (.string (s.extract i j)) RDX.out
      obtain ⟨z0, z1, z2, z3, z4, _⟩ := cells5 (put5_heap (a := .int .i64 3) (b := .bool false) (c := .string (s.extract i j)) (d := .slice none 0 0) (e := .slice none 0 0) hbx)
      have hZ := Lib.hid (And.intro z0 (And.intro z1 (And.intro z2 (And.intro z3 z4)))); have HMV := Lib.hid hmv; have HRR := Lib.hid hrr
      clear z0 z1 z2 z3 z4 hbx hmv hrr
      go_region
      go_wp2_with fail
      obtain ⟨z0, z1, z2, z3, z4⟩ := hZ.out
      refine bodyPost_ret (v := .agg #[.int .i64 3, .bool false, .string (s.extract i j), .slice none 0 0, .slice none 0 0]) (by simp [results, Tryz.results59, go_sem, z0, z1, z2, z3, z4]) rfl ?_
      exact RG.err (by rw [number_stages, ← HP.out, HX.out]; rfl) HMV.out.drew ⟨_, by rw [extract_list]⟩ HX1.out hjl HRR.out.drew
    obtain ⟨c, hc, hic, hcl, hrd⟩ := hst
    have RDC := Lib.hid hrd; have HC := Lib.hid hc
    clear hrd hc
    -- the fraction
    go_upto_if 36 with (first
      | (go_at_call 30; refine (ok_calls s _ m _ _ b _ RDC.out).mono ?_; rintro e w' ⟨rfl, hw'⟩; subst hw')
      | (go_at_call 54; refine (next_mv s c m 0 0 b _ RDC.out hs').mono ?_; rintro e w3 ⟨rfl, k1, k2⟩))
    have RD3 := Lib.hid k1
    have N3 := Lib.hid (NA.out.ok hbB k2 HC.out hic hcl k1)
    clear k1 k2
    go_cut [2, 3] (fun y x wr => y = .pointer (some ⟨B, 0, none⟩) ∧ x = .int .i64 i ∧ Hid (NS b B s i m w (thenR (Cx.numInt s.data.toList p) (Cx.numFrac s.data.toList)) wr))
    case first =>
      by_cases h46 : Cx.peek s.data.toList c = 46
      · have hlt : c < s.size := Cx.peek_lt (s := s.data.toList) (by rw [h46]; decide)
        have q1 := RD3.out.c1; have qf := RD3.out.fr 1
        rw [h46]
        have ho : thenR (Cx.numInt s.data.toList p) (Cx.numFrac s.data.toList) = Cx.digits s.data.toList (c + 1) := by rw [HC.out]; show Cx.numFrac s.data.toList c = _; unfold Cx.numFrac; rw [opt_in (by simp [h46]), if_neg (by omega)]
        have HO := Lib.hid ho
        have R4 := Lib.hid (RD3.out.set1 ((c + 1 : Nat) : Int))
        have M4 := Lib.hid ((Mv.refl b w3).set (a := ⟨b, 1, none⟩) (.inl rfl) (.int .i64 ((c + 1 : Nat) : Int)))
        clear h46 ho
        go_wp2_with fail
        refine (row_calls s (c + 1) m b _ R4.out (by omega) hs').mono ?_
        rintro e w4 ⟨rfl, hm4, hr4⟩
        have M5 := Lib.hid (M4.out.trans hm4); have R5 := Lib.hid hr4
        clear hm4 hr4
        go_wp2_with fail
        go_meet
        case rel =>
          refine ⟨rfl, rfl, Lib.hid ?_⟩
          rcases R5.out with ⟨hd, hr⟩ | ⟨hd, hr⟩
          · exact N3.out.ok hbB M5.out (HO.out.trans hd) (Nat.le_trans (Nat.le_succ_of_le hic) Cx.skipD_le) (Cx.skipD_len (s := s.data.toList) (show c + 1 ≤ s.data.toList.length from hlt)) hr
          · exact N3.out.bad hbB M5.out (HO.out.trans hd) (show (7 : Nat) ≠ 0 by decide) (Nat.le_succ_of_le hic) hlt hr
      · have n46 : (((Cx.peek s.data.toList c).toNat : Int) == 46) = false := u8ne (k := 46) h46
        have ho : thenR (Cx.numInt s.data.toList p) (Cx.numFrac s.data.toList) = .ok c := by rw [HC.out]; show Cx.numFrac s.data.toList c = _; unfold Cx.numFrac; rw [opt_out (by simpa using h46), if_pos rfl]
        have HO := Lib.hid ho
        clear h46 ho
        go_wp2_with fail
        go_meet
        case rel => exact ⟨rfl, rfl, Lib.hid (N3.out.ok hbB (Mv.refl b _) HO.out hic hcl RD3.out)⟩
    case rest =>
    obtain ⟨rfl, rfl, NB⟩ := hcut
    clear NA N3 RDC RD3 HC
    clear hic hcl
    clear c
    rcases NB.out.st with hst | hst
    rotate_left
    · obtain ⟨x, j, hx, hx1, hij, hjl, hrd⟩ := hst
      have hx0 : ((x.1 : Int) == 0) = false := by rw [beq_eq_false_iff_ne]; omega
      have RDX := Lib.hid hrd
      have HX := Lib.hid hx; have HX1 := Lib.hid hx1
      have q0 := hrd.c0; have q1 := hrd.c1
      obtain ⟨r0, r1, r2, r3, r4, rf⟩ := cells5 NB.out.box
      have rf0 := rf 0; have rf1 := rf 1; have rf2 := rf 2; have rf3 := rf 3; have rf4 := rf 4
      have nb : b ≠ B := by omega
      clear rf
      clear hx hx1 hrd
      go_wp2_with (go_at_call 30; refine (ok_calls s _ m _ _ b _ RDX.out).mono ?_; rintro e w' ⟨rfl, hw'⟩; rw [hx0]; subst hw')
      obtain ⟨hbx, hmv, hrr⟩ := NB.out.fin hbB (Mv.refl b _) (.string (s.extract i j)) RDX.out
      obtain ⟨z0, z1, z2, z3, z4, _⟩ := cells5 (put5_heap (a := .int .i64 3) (b := .bool false) (c := .string (s.extract i j)) (d := .slice none 0 0) (e := .slice none 0 0) hbx)
      have hZ := Lib.hid (And.intro z0 (And.intro z1 (And.intro z2 (And.intro z3 z4)))); have HMV := Lib.hid hmv; have HRR := Lib.hid hrr
      clear z0 z1 z2 z3 z4 hbx hmv hrr
      go_region
      go_wp2_with fail
      obtain ⟨z0, z1, z2, z3, z4⟩ := hZ.out
      refine bodyPost_ret (v := .agg #[.int .i64 3, .bool false, .string (s.extract i j), .slice none 0 0, .slice none 0 0]) (by simp [results, Tryz.results59, go_sem, z0, z1, z2, z3, z4]) rfl ?_
      exact RG.err (by rw [number_stages, ← HP.out, HX.out]; rfl) HMV.out.drew ⟨_, by rw [extract_list]⟩ HX1.out hjl HRR.out.drew
    obtain ⟨c, hc, hic, hcl, hrd⟩ := hst
    have RDC := Lib.hid hrd; have HC := Lib.hid hc
    have hrdc := hrd
    clear hrd hc
    -- the exponent
    go_upto_region 10 with fail
    go_cut [2, 3, 57] (fun y x f wr => y = .pointer (some ⟨B, 0, none⟩) ∧ x = .int .i64 i ∧ f = .bool (decide (Cx.peek s.data.toList c = 101 ∨ Cx.peek s.data.toList c = 69)) ∧ Hid (NS b B s i m w (.ok c) wr))
    case first =>
      by_cases h1 : Cx.peek s.data.toList c = 101
      · have p1 : (((Cx.peek s.data.toList c).toNat : Int) == 101) = true := by rw [h1]; rfl
        have H1 := Lib.hid h1
        clear h1
        go_wp2_with (first | (go_at_call 30; refine (ok_calls s _ m _ _ b _ RDC.out).mono ?_; rintro e w' ⟨rfl, hw'⟩; subst hw') | (go_at_call 54; refine (next_mv s c m 0 0 b _ ‹R2 b s (c : Int) m 0 0 _› hs').mono ?_; rintro e w3 ⟨rfl, k1, k2⟩))
        go_meet
        case rel => exact ⟨rfl, rfl, by simp [H1.out], Lib.hid (NB.out.ok hbB (by assumption) rfl hic hcl (by assumption))⟩
      · have p1 : (((Cx.peek s.data.toList c).toNat : Int) == 101) = false := u8ne (k := 101) h1
        have H1 := Lib.hid h1
        clear h1
        by_cases h2 : Cx.peek s.data.toList c = 69
        · have p2 : (((Cx.peek s.data.toList c).toNat : Int) == 69) = true := by rw [h2]; rfl
          have H2 := Lib.hid h2
          clear h2
          go_wp2_with (first | (go_at_call 30; refine (ok_calls s _ m _ _ b _ RDC.out).mono ?_; rintro e w' ⟨rfl, hw'⟩; subst hw') | (go_at_call 54; refine (next_mv s c m 0 0 b _ ‹R2 b s (c : Int) m 0 0 _› hs').mono ?_; rintro e w3 ⟨rfl, k1, k2⟩))
          go_meet
          case rel => exact ⟨rfl, rfl, by simp [H2.out], Lib.hid (NB.out.ok hbB (Mv.trans (by assumption) (by assumption)) rfl hic hcl (by assumption))⟩
        · have p2 : (((Cx.peek s.data.toList c).toNat : Int) == 69) = false := u8ne (k := 69) h2
          have H2 := Lib.hid h2
          clear h2
          go_wp2_with (first | (go_at_call 30; refine (ok_calls s _ m _ _ b _ RDC.out).mono ?_; rintro e w' ⟨rfl, hw'⟩; subst hw') | (go_at_call 54; refine (next_mv s c m 0 0 b _ ‹R2 b s (c : Int) m 0 0 _› hs').mono ?_; rintro e w3 ⟨rfl, k1, k2⟩))
          go_meet
          case rel => exact ⟨rfl, rfl, by simp [H1.out, H2.out], Lib.hid (NB.out.ok hbB (Mv.trans (by assumption) (by assumption)) rfl hic hcl (by assumption))⟩
    case rest =>
    obtain ⟨rfl, rfl, rfl, NC⟩ := hcut
    clear NB RDC hrdc
    have RDC := Lib.hid NC.out.rd.2.2
    go_upto_if 57 with fail
    go_cut [2, 3] (fun y x wr => y = .pointer (some ⟨B, 0, none⟩) ∧ x = .int .i64 i ∧ Hid (NS b B s i m w (thenR (thenR (Cx.numInt s.data.toList p) (Cx.numFrac s.data.toList)) (Cx.numExp s.data.toList)) wr))
    case first =>
      by_cases he : Cx.peek s.data.toList c = 101 ∨ Cx.peek s.data.toList c = 69
      rotate_left
      · have ho : thenR (thenR (Cx.numInt s.data.toList p) (Cx.numFrac s.data.toList)) (Cx.numExp s.data.toList) = .ok c := by rw [HC.out]; show Cx.numExp s.data.toList c = _; unfold Cx.numExp; rw [opt_out (by simpa using he), if_pos rfl]
        have HO := Lib.hid ho
        rw [decide_eq_false he]
        clear he ho
        go_wp2_with fail
        go_meet
        case rel => exact ⟨rfl, rfl, Lib.hid (NC.out.ok hbB (Mv.refl b _) HO.out hic hcl RDC.out)⟩
      have hlt : c < s.size := Cx.peek_lt (s := s.data.toList) (by rcases he with h | h <;> (rw [h]; decide))
      have ho : thenR (thenR (Cx.numInt s.data.toList p) (Cx.numFrac s.data.toList)) (Cx.numExp s.data.toList) = Cx.digits s.data.toList (Cx.opt s.data.toList [43, 45] (c + 1)) := by rw [HC.out]; show Cx.numExp s.data.toList c = _; unfold Cx.numExp; rw [opt_in (by simpa using he), if_neg (by omega)]
      have HO := Lib.hid ho
      rw [decide_eq_true he]
      have q1 := RDC.out.c1; have qf := RDC.out.fr 1
      have R4 : R2 b s ((c + 1 : Nat) : Int) m 0 0 (wc.setCell ⟨b, 1, none⟩ (.int .i64 ((c + 1 : Nat) : Int))) := RDC.out.set1 _
      have M4 : Mv b wc (wc.setCell ⟨b, 1, none⟩ (.int .i64 ((c + 1 : Nat) : Int))) := (Mv.refl b wc).set (.inl rfl) _
      clear he ho
      by_cases h1 : Cx.peek s.data.toList (c + 1) = 43 ∨ Cx.peek s.data.toList (c + 1) = 45
      · have hql : c + 2 ≤ s.size := Cx.peek_lt (s := s.data.toList) (by rcases h1 with h | h <;> (rw [h]; decide))
        have ho2 : Cx.digits s.data.toList (Cx.opt s.data.toList [43, 45] (c + 1)) = Cx.digits s.data.toList (c + 2) := by rw [opt_in (by simpa using h1)]
        have HO := Lib.hid (HO.out.trans ho2)
        clear ho2
        by_cases h43 : Cx.peek s.data.toList (c + 1) = 43
        · have p1 : (((Cx.peek s.data.toList (c + 1)).toNat : Int) == 43) = true := by rw [h43]; rfl
          clear h43 h1
          go_wp2_with (go_at_call 54; refine (next_mv s (c + 1) m 0 0 b _ ‹R2 b s (((c + 1 : Nat) : Int) : Int) m 0 0 _› hs').mono ?_; rintro e w3 ⟨rfl, k1, k2⟩; have k3 : Mv b wc w3 := Mv.trans (by assumption) k2; have q1 := k1.c1; have qf := k1.fr 1)
          have RQ := Lib.hid (show R2 b s ((c + 2 : Nat) : Int) m 0 0 (w3.setCell ⟨b, 1, none⟩ (.int .i64 ((c + 1 : Nat) + 1))) from k1.set1 _)
          have MQ := Lib.hid (show Mv b wc (w3.setCell ⟨b, 1, none⟩ (.int .i64 ((c + 1 : Nat) + 1))) from k3.set (.inl rfl) _)
          clear k1 k2 k3
          refine (row_calls s (c + 2) m b _ RQ.out hql hs').mono ?_
          rintro e w6 ⟨rfl, hm6, hr6⟩
          have M6 := Lib.hid (MQ.out.trans hm6); have R6 := Lib.hid hr6
          clear hm6 hr6
          go_wp2_with fail
          go_meet
          case rel =>
            refine ⟨rfl, rfl, Lib.hid ?_⟩
            rcases R6.out with ⟨hd, hr⟩ | ⟨hd, hr⟩
            · exact NC.out.ok hbB M6.out (HO.out.trans hd) (Nat.le_trans (show i ≤ (c + 2) by omega) Cx.skipD_le) (Cx.skipD_len (s := s.data.toList) (show (c + 2) ≤ s.data.toList.length from hql)) hr
            · exact NC.out.bad hbB M6.out (HO.out.trans hd) (show (7 : Nat) ≠ 0 by decide) (show i ≤ (c + 2) by omega) hql hr
        · have p1 : (((Cx.peek s.data.toList (c + 1)).toNat : Int) == 43) = false := u8ne (k := 43) h43
          have p2 : (((Cx.peek s.data.toList (c + 1)).toNat : Int) == 45) = true := by rw [h1.resolve_left h43]; rfl
          clear h43 h1
          go_wp2_with (go_at_call 54; refine (next_mv s (c + 1) m 0 0 b _ ‹R2 b s (((c + 1 : Nat) : Int) : Int) m 0 0 _› hs').mono ?_; rintro e w3 ⟨rfl, k1, k2⟩; have k3 : Mv b wc w3 := Mv.trans (by assumption) k2; have q1 := k1.c1; have qf := k1.fr 1)
          have RQ := Lib.hid (show R2 b s ((c + 2 : Nat) : Int) m 0 0 (w3.setCell ⟨b, 1, none⟩ (.int .i64 ((c + 1 : Nat) + 1))) from k1.set1 _)
          have MQ := Lib.hid (show Mv b wc (w3.setCell ⟨b, 1, none⟩ (.int .i64 ((c + 1 : Nat) + 1))) from k3.set (.inl rfl) _)
          clear k1 k2 k3
          refine (row_calls s (c + 2) m b _ RQ.out hql hs').mono ?_
          rintro e w6 ⟨rfl, hm6, hr6⟩
          have M6 := Lib.hid (MQ.out.trans hm6); have R6 := Lib.hid hr6
          clear hm6 hr6
          go_wp2_with fail
          go_meet
          case rel =>
            refine ⟨rfl, rfl, Lib.hid ?_⟩
            rcases R6.out with ⟨hd, hr⟩ | ⟨hd, hr⟩
            · exact NC.out.ok hbB M6.out (HO.out.trans hd) (Nat.le_trans (show i ≤ (c + 2) by omega) Cx.skipD_le) (Cx.skipD_len (s := s.data.toList) (show (c + 2) ≤ s.data.toList.length from hql)) hr
            · exact NC.out.bad hbB M6.out (HO.out.trans hd) (show (7 : Nat) ≠ 0 by decide) (show i ≤ (c + 2) by omega) hql hr
      · have hql : c + 1 ≤ s.size := hlt
        have ho2 : Cx.digits s.data.toList (Cx.opt s.data.toList [43, 45] (c + 1)) = Cx.digits s.data.toList (c + 1) := by rw [opt_out (by simpa using h1)]
        have HO := Lib.hid (HO.out.trans ho2)
        have p1 : (((Cx.peek s.data.toList (c + 1)).toNat : Int) == 43) = false := u8ne (k := 43) (fun h => h1 (.inl h))
        have p2 : (((Cx.peek s.data.toList (c + 1)).toNat : Int) == 45) = false := u8ne (k := 45) (fun h => h1 (.inr h))
        clear ho2 h1
        go_wp2_with (go_at_call 54; refine (next_mv s (c + 1) m 0 0 b _ ‹R2 b s (((c + 1 : Nat) : Int) : Int) m 0 0 _› hs').mono ?_; rintro e w3 ⟨rfl, k1, k2⟩; have k3 : Mv b wc w3 := Mv.trans (by assumption) k2; have q1 := k1.c1; have qf := k1.fr 1)
        have RQ := Lib.hid k1
        have MQ := Lib.hid k3
        clear k1 k2 k3
        refine (row_calls s (c + 1) m b _ RQ.out hql hs').mono ?_
        rintro e w6 ⟨rfl, hm6, hr6⟩
        have M6 := Lib.hid (MQ.out.trans hm6); have R6 := Lib.hid hr6
        clear hm6 hr6
        go_wp2_with fail
        go_meet
        case rel =>
          refine ⟨rfl, rfl, Lib.hid ?_⟩
          rcases R6.out with ⟨hd, hr⟩ | ⟨hd, hr⟩
          · exact NC.out.ok hbB M6.out (HO.out.trans hd) (Nat.le_trans (show i ≤ (c + 1) by omega) Cx.skipD_le) (Cx.skipD_len (s := s.data.toList) (show (c + 1) ≤ s.data.toList.length from hql)) hr
          · exact NC.out.bad hbB M6.out (HO.out.trans hd) (show (7 : Nat) ≠ 0 by decide) (show i ≤ (c + 1) by omega) hql hr
    case rest =>
    obtain ⟨rfl, rfl, ND⟩ := hcut
    clear NC RDC HC
    clear hic hcl
    clear c
    rcases ND.out.st with hst | hst
    rotate_left
    · obtain ⟨x, j, hx, hx1, hij, hjl, hrd⟩ := hst
      have hx0 : ((x.1 : Int) == 0) = false := by rw [beq_eq_false_iff_ne]; omega
      have RDX := Lib.hid hrd
      have HX := Lib.hid hx; have HX1 := Lib.hid hx1
      have q0 := hrd.c0; have q1 := hrd.c1
      obtain ⟨r0, r1, r2, r3, r4, rf⟩ := cells5 ND.out.box
      have rf0 := rf 0; have rf1 := rf 1; have rf2 := rf 2; have rf3 := rf 3; have rf4 := rf 4
      have nb : b ≠ B := by omega
      clear rf
      clear hx hx1 hrd
      go_wp2_with (go_at_call 30; refine (ok_calls s _ m _ _ b _ RDX.out).mono ?_; rintro e w' ⟨rfl, hw'⟩; rw [hx0]; subst hw')
      obtain ⟨hbx, hmv, hrr⟩ := ND.out.fin hbB (Mv.refl b _) (.string (s.extract i j)) RDX.out
      obtain ⟨z0, z1, z2, z3, z4, _⟩ := cells5 (put5_heap (a := .int .i64 3) (b := .bool false) (c := .string (s.extract i j)) (d := .slice none 0 0) (e := .slice none 0 0) hbx)
      have hZ := Lib.hid (And.intro z0 (And.intro z1 (And.intro z2 (And.intro z3 z4)))); have HMV := Lib.hid hmv; have HRR := Lib.hid hrr
      clear z0 z1 z2 z3 z4 hbx hmv hrr
      go_region
      go_wp2_with fail
      obtain ⟨z0, z1, z2, z3, z4⟩ := hZ.out
      refine bodyPost_ret (v := .agg #[.int .i64 3, .bool false, .string (s.extract i j), .slice none 0 0, .slice none 0 0]) (by simp [results, Tryz.results59, go_sem, z0, z1, z2, z3, z4]) rfl ?_
      exact RG.err (by rw [number_stages, ← HP.out, HX.out]; rfl) HMV.out.drew ⟨_, by rw [extract_list]⟩ HX1.out hjl HRR.out.drew
    obtain ⟨c, hc, hic, hcl, hrd⟩ := hst
    have RDC := Lib.hid hrd; have HC := Lib.hid hc
    have q0 := hrd.c0; have q1 := hrd.c1
    have nb : b ≠ B := by omega
    clear hrd hc
    by_cases hlong : 40 < c - i
    · have hl : (40 : Int) < (c : Int) - (i : Int) := by omega
      go_wp2_with (first
        | (go_at_call 30; refine (ok_calls s _ m _ _ b _ RDC.out).mono ?_; rintro e w' ⟨rfl, hw'⟩; subst hw')
        | (go_at_call 29; refine (fail_calls s c m 0 5 i b _ RDC.out).mono ?_; rintro e w3 ⟨rfl, k1, k2⟩; have NE : Hid (NS b B s i m w (.error (5, i)) w3) := Lib.hid (ND.out.bad hbB k2 rfl (show (5 : Nat) ≠ 0 by decide) hic hcl k1); have RDX := Lib.hid k1; clear k1 k2))
      have q0 := RDX.out.c0; have q1 := RDX.out.c1
      obtain ⟨r0, r1, r2, r3, r4, rf⟩ := cells5 NE.out.box
      have rf0 := rf 0; have rf1 := rf 1; have rf2 := rf 2; have rf3 := rf 3; have rf4 := rf 4
      have nb : b ≠ B := by omega
      clear rf
      obtain ⟨hbx, hmv, hrr⟩ := NE.out.fin hbB (Mv.refl b _) (.string (s.extract i c)) RDX.out
      obtain ⟨z0, z1, z2, z3, z4, _⟩ := cells5 (put5_heap (a := .int .i64 3) (b := .bool false) (c := .string (s.extract i c)) (d := .slice none 0 0) (e := .slice none 0 0) hbx)
      have hZ := Lib.hid (And.intro z0 (And.intro z1 (And.intro z2 (And.intro z3 z4)))); have HMV := Lib.hid hmv; have HRR := Lib.hid hrr
      clear z0 z1 z2 z3 z4 hbx hmv hrr
      go_region
      go_wp2_with fail
      obtain ⟨z0, z1, z2, z3, z4⟩ := hZ.out
      refine bodyPost_ret (v := .agg #[.int .i64 3, .bool false, .string (s.extract i c), .slice none 0 0, .slice none 0 0]) (by simp [results, Tryz.results59, go_sem, z0, z1, z2, z3, z4]) rfl ?_
      exact RG.err (x := (5, i)) (by rw [number_stages, ← HP.out, HC.out]; show (if c - i > 40 then _ else _) = _; rw [if_pos hlong]) HMV.out.drew ⟨_, by rw [extract_list]⟩ (show (5 : Nat) ≠ 0 by decide) hcl HRR.out.drew
    · have hl : ¬ (40 : Int) < (c : Int) - (i : Int) := by omega
      obtain ⟨r0, r1, r2, r3, r4, rf⟩ := cells5 ND.out.box
      have rf0 := rf 0; have rf1 := rf 1; have rf2 := rf 2; have rf3 := rf 3; have rf4 := rf 4
      clear rf
      go_wp2_with (go_at_call 30; refine (ok_calls s _ m _ _ b _ RDC.out).mono ?_; rintro e w' ⟨rfl, hw'⟩; subst hw')
      obtain ⟨hbx, hmv, hrr⟩ := ND.out.fin hbB (Mv.refl b _) (.string (s.extract i c)) RDC.out
      obtain ⟨z0, z1, z2, z3, z4, _⟩ := cells5 (put5_heap (a := .int .i64 3) (b := .bool false) (c := .string (s.extract i c)) (d := .slice none 0 0) (e := .slice none 0 0) hbx)
      have hZ := Lib.hid (And.intro z0 (And.intro z1 (And.intro z2 (And.intro z3 z4)))); have HMV := Lib.hid hmv; have HRR := Lib.hid hrr
      clear z0 z1 z2 z3 z4 hbx hmv hrr
      go_region
      go_wp2_with fail
      obtain ⟨z0, z1, z2, z3, z4⟩ := hZ.out
      refine bodyPost_ret (v := .agg #[.int .i64 3, .bool false, .string (s.extract i c), .slice none 0 0, .slice none 0 0]) (by simp [results, Tryz.results59, go_sem, z0, z1, z2, z3, z4]) rfl ?_
      exact RG.ok (a := c) (by rw [number_stages, ← HP.out, HC.out]; show (if c - i > 40 then _ else _) = _; rw [if_neg hlong]) HMV.out.drew ⟨by rw [extract_list], HRR.out.drew⟩
end Go.Proofs.YtbdmepilmoomeaaGreatDoor

namespace Go.Proofs.YtbdmepilmoomeaaGreatDoor
open Go.RowKit

/-- A hexadecimal digit; below 0: none. -/
def hexI (c : UInt8) : Int := match Cx.hexv c with | some d => (d : Int) | none => -1

theorem hexI_eq (c : UInt8) : hexI c = if 48 ≤ c.toNat ∧ c.toNat ≤ 57 then (c.toNat : Int) - 48 else if 97 ≤ c.toNat ∧ c.toNat ≤ 102 then (c.toNat : Int) - 87 else if 65 ≤ c.toNat ∧ c.toNat ≤ 70 then (c.toNat : Int) - 55 else -1 := by
  unfold hexI Cx.hexv
  by_cases h1 : 48 ≤ c.toNat ∧ c.toNat ≤ 57
  · rw [if_pos h1, if_pos h1]; simp only; omega
  rw [if_neg h1, if_neg h1]
  by_cases h2 : 97 ≤ c.toNat ∧ c.toNat ≤ 102
  · rw [if_pos h2, if_pos h2]; simp only; omega
  rw [if_neg h2, if_neg h2]
  by_cases h3 : 65 ≤ c.toNat ∧ c.toNat ≤ 70
  · rw [if_pos h3, if_pos h3]; simp only; omega
  rw [if_neg h3, if_neg h3]
theorem hexI_lt (c : UInt8) : -1 ≤ hexI c ∧ hexI c ≤ 15 := by
  rw [hexI_eq]; repeat' split
  all_goals omega

set_option maxRecDepth 100000 in
theorem six_calls (c : UInt8) (w : World) : Calls Tryz.prog 126 #[.int .u8 c.toNat] w fun e w' => e = .returned (.int .i64 (hexI c)) ∧ w' = w := by
  have hc := c.toNat_lt
  have hdi : Cx.isDig c = decide (48 ≤ c.toNat ∧ c.toNat ≤ 57) := by
    simp only [Cx.isDig, UInt8.le_iff_toNat_le, Bool.decide_and]; rfl
  have HD := Lib.hid hdi
  clear hdi
  go_enter Tryz.func126, Tryz.ntmps126
  go_wp2_with (go_at_call 39; refine (digit2_calls c _).mono ?_; rintro e w' ⟨rfl, hw'⟩; subst hw'; rw [HD.out])
  all_goals go_ret
  all_goals
    refine ⟨ret_int ?_, rfl⟩
    rw [hexI_eq]
    repeat' split
    all_goals omega

/-- What hexadecimal digits say. -/
def hexP (l : List UInt8) : Option Nat := l.foldl (fun o c => o.bind fun v => (Cx.hexv c).map fun d => v * 16 + d) (some 0)
theorem hexP_snoc (l : List UInt8) (c : UInt8) : hexP (l ++ [c]) = (hexP l).bind fun v => (Cx.hexv c).map fun d => v * 16 + d := by
  unfold hexP; rw [List.foldl_append]; rfl
theorem hexP_none : ∀ (l : List UInt8), l.foldl (fun (o : Option Nat) c => o.bind fun v => (Cx.hexv c).map fun d => v * 16 + d) none = none
  | [] => rfl
  | _ :: l => hexP_none l
theorem hexP_app (a b : List UInt8) (h : hexP a = none) : hexP (a ++ b) = none := by
  unfold hexP at h ⊢; rw [List.foldl_append, h]; exact hexP_none b
theorem hex4_P (a b c d : UInt8) : Cx.hex4 [a, b, c, d] = hexP [a, b, c, d] := by
  unfold Cx.hex4 hexP
  simp only [List.foldl]
  cases Cx.hexv a <;> cases Cx.hexv b <;> cases Cx.hexv c <;> cases Cx.hexv d <;> simp
theorem unitI_of {s : List UInt8} {p : Nat} {a b c d : UInt8} {r : List UInt8} (h : s.drop p = 92 :: 117 :: a :: b :: c :: d :: r) : unitI s p = match hexP [a, b, c, d] with | some v => (v : Int) | none => -1 := by
  unfold unitI Cx.unit
  rw [h]; simp only
  rw [hex4_P]
  cases hexP [a, b, c, d] <;> rfl
theorem unitI_no {s : List UInt8} {p : Nat} (h : s.length < p + 6 ∨ s[p]? ≠ some 92 ∨ s[p + 1]? ≠ some 117) : unitI s p = -1 := by
  unfold unitI Cx.unit
  split
  · rename_i v heq
    split at heq
    · rename_i a b c d r hd
      exfalso
      have hl := congrArg List.length hd
      simp at hl
      have h0 : s[p]? = some 92 := by rw [← List.head?_drop, hd]; rfl
      have h1 : s[p + 1]? = some 117 := by
        have : (s.drop p)[1]? = some 117 := by rw [hd]; rfl
        rw [List.getElem?_drop] at this; exact this
      rcases h with h | h | h
      · omega
      · exact h h0
      · exact h h1
    · cases heq
  · rfl

set_option maxRecDepth 100000 in
set_option maxHeartbeats 1000000 in
theorem unit2_calls (s : ByteArray) (i p : Nat) (m y q : Int) (b : Nat) (w : World) (h : R2 b s i m y q w) (hp : p ≤ 200000) (hs : s.size ≤ 100000) :
    Calls Tryz.prog 112 #[.pointer (some ⟨b, 0, none⟩), .int .i64 p] w fun e w' => e = .returned (.int .i64 (unitI s.data.toList p)) ∧ w' = w := by
  have q0 := h.c0
  clear h
  obtain ⟨U, hU⟩ : ∃ U, U = unitI s.data.toList p := ⟨_, rfl⟩
  rw [← hU]
  have hsl : s.data.toList.length = s.size := rfl
  by_cases hlen : s.size < p + 6
  · have hno := unitI_no (s := s.data.toList) (p := p) (.inl (by omega))
    have HN := Lib.hid (hU.trans hno)
    have hl : (s.size : Int) < (p : Int) + 6 := by omega
    clear hU hno
    go_enter Tryz.func112, Tryz.ntmps112
    go_wp2_with fail
    go_ret
    rw [HN.out]
    exact ⟨rfl, rfl⟩
  have hl : ¬ (s.size : Int) < (p : Int) + 6 := by omega
  have hgp : ∀ k, ∀ h : k < s.size, s.data.toList[k]? = some s[k] := fun k h => List.getElem?_eq_getElem (show k < s.data.toList.length from h)
  by_cases h92 : s[p]'(by omega) = 92
  rotate_left
  · have hno := unitI_no (s := s.data.toList) (p := p) (.inr (.inl (by
      rw [hgp p (by omega)]; simpa using h92)))
    have HN := Lib.hid (hU.trans hno)
    have hne : (((s[p]'(by omega)).toNat : Int) != 92) = true := by rw [bne_iff_ne]; intro e; exact h92 (UInt8.toNat_inj.1 (by simp; omega))
    clear hU hno hgp h92
    go_enter Tryz.func112, Tryz.ntmps112
    go_wp2_with fail
    go_ret
    rw [HN.out]
    exact ⟨rfl, rfl⟩
  have hn1 : (((s[p]'(by omega)).toNat : Int) != 92) = false := by rw [h92]; rfl
  by_cases h117 : s[p + 1]'(by omega) = 117
  rotate_left
  · have hno := unitI_no (s := s.data.toList) (p := p) (.inr (.inr (by
      rw [hgp (p + 1) (by omega)]; simpa using h117)))
    have HN := Lib.hid (hU.trans hno)
    have hne : (((s[p + 1]'(by omega)).toNat : Int) != 117) = true := by rw [bne_iff_ne]; intro e; exact h117 (UInt8.toNat_inj.1 (by simp; omega))
    clear hU hno hgp h117 h92
    go_enter Tryz.func112, Tryz.ntmps112
    go_wp2_with fail
    go_ret
    rw [HN.out]
    exact ⟨rfl, rfl⟩
  have hn2 : (((s[p + 1]'(by omega)).toNat : Int) != 117) = false := by rw [h117]; rfl
  obtain ⟨D, hD⟩ : ∃ D : List UInt8, D = (s.data.toList.drop (p + 2)).take 4 := ⟨_, rfl⟩
  have hDl : D.length = 4 := by rw [hD]; simp; omega
  have hDk : ∀ k, k < 4 → ∀ h : p + (k + 2) < s.size, D[k]? = some s[p + (k + 2)] := fun k hk h => by
    rw [hD, List.getElem?_take, if_pos hk, List.getElem?_drop, ← hgp (p + (k + 2)) h]; congr 1; omega
  have hUD : U = match hexP D with | some v => (v : Int) | none => -1 := by
    have e0 := hgp p (by omega); have e1 := hgp (p + 1) (by omega)
    rw [hU]
    have hdr : s.data.toList.drop p = 92 :: 117 :: (D ++ s.data.toList.drop (p + 6)) := by
      rw [List.drop_eq_getElem_cons (show p < s.data.toList.length by omega), List.drop_eq_getElem_cons (show p + 1 < s.data.toList.length by omega)]
      rw [List.getElem?_eq_getElem (by omega)] at e0 e1
      rw [Option.some.inj e0, Option.some.inj e1, h92, h117, hD]
      congr 2
      rw [show p + 1 + 1 = p + 2 by omega, show s.data.toList.drop (p + 6) = (s.data.toList.drop (p + 2)).drop 4 by rw [List.drop_drop]]
      exact (List.take_append_drop 4 _).symm
    clear hD
    match D, hDl, hdr with
    | [x0, x1, x2, x3], _, hdr => exact unitI_of hdr
  have HUD := Lib.hid hUD; have HDK := Lib.hid hDk; have HDL := Lib.hid hDl
  clear hU hgp h92 h117 hD hDl hDk hUD
  go_enter Tryz.func112, Tryz.ntmps112
  go_wp2_with fail
  go_loop [5, 6] (fun vv vk => ∃ (v k : Nat), vv = .int .i64 v ∧ vk = .int .i64 (k + 2 : Nat) ∧ k ≤ 4 ∧ v < 16 ^ k ∧ Hid (hexP (D.take k) = some v)) (fun _ vk => 6 - (intOf vk).toNat)
  case atStart => exact ⟨0, 0, rfl, rfl, by omega, by decide, Lib.hid rfl⟩
  case round =>
    obtain ⟨v, k, rfl, rfl, hk, hv, HP⟩ := hrel
    rcases Nat.lt_or_ge k 4 with hlt | hge
    · have hjl : p + (k + 2) < s.size := by omega
      have hdk : (D.take (k + 1)) = D.take k ++ [s[p + (k + 2)]] := by
        rw [List.take_add_one, HDK.out k hlt hjl]; rfl
      have hx := hexP_snoc (D.take k) s[p + (k + 2)]
      rw [← hdk, HP.out] at hx
      have HX := Lib.hid hx
      have hv4 : v ≤ 4095 := by
        have : 16 ^ k ≤ 16 ^ 3 := Nat.pow_le_pow_right (by omega) (by omega)
        omega
      have HV := Lib.hid hv
      clear hv
      clear hdk hx
      cases hh : Cx.hexv s[p + (k + 2)] with
      | none =>
        have h6 : hexI s[p + (k + 2)] = -1 := by unfold hexI; rw [hh]
        have hn : hexP (D.take (k + 1)) = none := by rw [HX.out, hh]; rfl
        have hU1 : U = -1 := by
          have := hexP_app _ (D.drop (k + 1)) hn
          rw [List.take_append_drop] at this
          rw [HUD.out, this]
        have HU1 := Lib.hid hU1
        clear hh hn hU1
        go_wp2_with (go_at_call 126; refine (six_calls _ _).mono ?_; rintro e w' ⟨rfl, hw'⟩; subst hw'; rw [h6])
        go_ret
        rw [HU1.out]
        exact ⟨rfl, rfl⟩
      | some d =>
        have h6 : hexI s[p + (k + 2)] = (d : Int) := by unfold hexI; rw [hh]
        have h15 := Cx.hexv_lt hh
        have hn : hexP (D.take (k + 1)) = some (v * 16 + d) := by rw [HX.out, hh]; rfl
        have HN := Lib.hid hn
        clear hh hn
        go_wp2_with (go_at_call 126; refine (six_calls _ _).mono ?_; rintro e w' ⟨rfl, hw'⟩; subst hw'; rw [h6])
        go_round
        case rel =>
          refine ⟨v * 16 + d, k + 1, ?_, by go_num, by omega, ?_, HN⟩
          · congr 1; omega
          · have := HV.out; rw [Nat.pow_succ]; omega
        case measure => simp [intOf]; omega
    · have hk4 : k = 4 := by omega
      subst hk4
      have hU1 : U = (v : Int) := by
        have := HP.out
        rw [List.take_of_length_le (by rw [HDL.out]; omega)] at this
        rw [HUD.out, this]
      have HU1 := Lib.hid hU1
      clear hU1
      go_wp2_with fail
      go_ret
      rw [HU1.out]
      exact ⟨rfl, rfl⟩

theorem esc_bind (s : List UInt8) (i : Nat) : (s[i + 1]?).bind Cx.simple = Cx.simple (Cx.peek s (i + 1)) := by
  unfold Cx.peek List.getD
  cases s[i + 1]? <;> rfl
theorem unitI_some {s : List UInt8} {p v : Nat} (h : Cx.unit s p = some v) : unitI s p = v := by unfold unitI; rw [h]
theorem unitI_none {s : List UInt8} {p : Nat} (h : Cx.unit s p = none) : unitI s p = -1 := by unfold unitI; rw [h]
theorem escape_unit' (s : List UInt8) (i : Nat) (h : Cx.simple (Cx.peek s (i + 1)) = none) : Cx.escape s i = match Cx.unit s i with
    | none => .error (7, i)
    | some v =>
      if 0xD800 ≤ v ∧ v < 0xDC00 then
        match Cx.unit s (i + 6) with
        | none => .error (7, i)
        | some low => if 0xDC00 ≤ low ∧ low < 0xE000 then .ok (Cx.enc (0x10000 + (v - 0xD800) * 1024 + (low - 0xDC00)), i + 12) else .error (7, i)
      else if 0xD800 ≤ v ∧ v < 0xE000 then .error (7, i) else .ok (Cx.enc v, i + 6) := by
  unfold Cx.escape
  rw [esc_bind, h]
  rfl
theorem escape_simple' (s : List UInt8) (i : Nat) (x : UInt8) (h : Cx.simple (Cx.peek s (i + 1)) = some x) : Cx.escape s i = .ok ([x], i + 2) := by
  unfold Cx.escape
  rw [esc_bind, h]

set_option maxRecDepth 100000 in
set_option maxHeartbeats 4000000 in
theorem escape2_calls (s : ByteArray) (i : Nat) (m : Int) (b : Nat) (w : World) (h : R2 b s i m 0 0 w) (hi : i < s.size) (hs : s.size ≤ 100000) :
    Calls Tryz.prog 86 #[.pointer (some ⟨b, 0, none⟩)] w (RG (Cx.escape s.data.toList i) (Text2 b s m) Str b s w) := by
  have q0 := h.c0; have q1 := h.c1; have qf := h.fr 1
  obtain ⟨RES, hRES⟩ : ∃ RES, RES = Cx.escape s.data.toList i := ⟨_, rfl⟩
  rw [← hRES]
  obtain ⟨c, hc⟩ : ∃ c, c = Cx.peek s.data.toList (i + 1) := ⟨_, rfl⟩
  have H := Lib.hid h; have HR := Lib.hid hRES; have HC := Lib.hid hc
  clear h hRES
  go_enter Tryz.func86, Tryz.ntmps86
  go_upto_if 22 with fail
  go_cut [4] (fun z wr => z = .int .u8 c.toNat ∧ wr = w)
  case first =>
    by_cases hlt : i + 1 < s.size
    · have hlI : (i : Int) + 1 < (s.size : Int) := by omega
      have he : (((s[i + 1]'hlt).toNat : Int)) = (c.toNat : Int) := by rw [hc, peek_size hlt]
      clear hc
      go_wp2_with fail
      go_meet
      case rel => exact ⟨rfl, rfl⟩
    · have hlI : ¬ (i : Int) + 1 < (s.size : Int) := by omega
      have he : c = 0 := by rw [hc]; exact Cx.peek_end (by show s.size ≤ i + 1; omega)
      subst he
      clear hc
      go_wp2_with fail
      go_meet
      case rel => exact ⟨rfl, rfl⟩
  case rest =>
    obtain ⟨rfl, rfl⟩ := hcut
    clear hc
    go_wp2_with fail
    go_loop [6] (fun z => ∃ k : Nat, z = .int .i64 k ∧ k ≤ 8 ∧ Hid (∀ j, j < k → ([34, 92, 47, 98, 102, 110, 114, 116] : List UInt8)[j]? ≠ some c)) (fun z => 8 - (intOf z).toNat)
    case atStart => exact ⟨0, rfl, by omega, Lib.hid (fun j h => by omega)⟩
    case round =>
      obtain ⟨k, rfl, hk, HK⟩ := hrel
      have hcases : k = 0 ∨ k = 1 ∨ k = 2 ∨ k = 3 ∨ k = 4 ∨ k = 5 ∨ k = 6 ∨ k = 7 ∨ k = 8 := by omega
      rcases hcases with rfl | rfl | rfl | rfl | rfl | rfl | rfl | rfl | rfl
      · have hidx : (((⟨#[34, 92, 47, 98, 102, 110, 114, 116]⟩ : ByteArray)[0]'(by decide)).toNat : Int) = 34 := by decide
        by_cases he : c = 34
        · have hes := escape_simple' s.data.toList i 34 (by rw [← HC.out, he]; rfl)
          have HES := Lib.hid (HR.out.trans hes)
          subst he
          clear hes HK
          go_wp2_with fail
          go_ret
          exact RG.ok HES.out ((Mv.refl b _).set (.inl rfl) _) ⟨ret_str (show (⟨#[34, 92, 47, 8, 12, 10, 13, 9]⟩ : ByteArray).extract 0 1 = ⟨#[34]⟩ by decide), H.out.set1 _⟩
        · have hne : (((34 : UInt8).toNat : Int) == (c.toNat : Int)) = false := u8ne (Ne.symm he)
          have hne2 : ((34 : Int) == (c.toNat : Int)) = false := hne
          have HE := Lib.hid he
          clear he hne
          go_wp2_with fail
          go_round
          case rel => exact ⟨0 + 1, by go_num, by omega, Lib.hid (fun j h => by rcases Nat.lt_or_ge j 0 with g | g; exact HK.out j g; rw [show j = 0 by omega]; simpa using Ne.symm HE.out)⟩
          case measure => simp [intOf]
      · have hidx : (((⟨#[34, 92, 47, 98, 102, 110, 114, 116]⟩ : ByteArray)[1]'(by decide)).toNat : Int) = 92 := by decide
        by_cases he : c = 92
        · have hes := escape_simple' s.data.toList i 92 (by rw [← HC.out, he]; rfl)
          have HES := Lib.hid (HR.out.trans hes)
          subst he
          clear hes HK
          go_wp2_with fail
          go_ret
          exact RG.ok HES.out ((Mv.refl b _).set (.inl rfl) _) ⟨ret_str (show (⟨#[34, 92, 47, 8, 12, 10, 13, 9]⟩ : ByteArray).extract 1 2 = ⟨#[92]⟩ by decide), H.out.set1 _⟩
        · have hne : (((92 : UInt8).toNat : Int) == (c.toNat : Int)) = false := u8ne (Ne.symm he)
          have hne2 : ((92 : Int) == (c.toNat : Int)) = false := hne
          have HE := Lib.hid he
          clear he hne
          go_wp2_with fail
          go_round
          case rel => exact ⟨1 + 1, by go_num, by omega, Lib.hid (fun j h => by rcases Nat.lt_or_ge j 1 with g | g; exact HK.out j g; rw [show j = 1 by omega]; simpa using Ne.symm HE.out)⟩
          case measure => simp [intOf]
      · have hidx : (((⟨#[34, 92, 47, 98, 102, 110, 114, 116]⟩ : ByteArray)[2]'(by decide)).toNat : Int) = 47 := by decide
        by_cases he : c = 47
        · have hes := escape_simple' s.data.toList i 47 (by rw [← HC.out, he]; rfl)
          have HES := Lib.hid (HR.out.trans hes)
          subst he
          clear hes HK
          go_wp2_with fail
          go_ret
          exact RG.ok HES.out ((Mv.refl b _).set (.inl rfl) _) ⟨ret_str (show (⟨#[34, 92, 47, 8, 12, 10, 13, 9]⟩ : ByteArray).extract 2 3 = ⟨#[47]⟩ by decide), H.out.set1 _⟩
        · have hne : (((47 : UInt8).toNat : Int) == (c.toNat : Int)) = false := u8ne (Ne.symm he)
          have hne2 : ((47 : Int) == (c.toNat : Int)) = false := hne
          have HE := Lib.hid he
          clear he hne
          go_wp2_with fail
          go_round
          case rel => exact ⟨2 + 1, by go_num, by omega, Lib.hid (fun j h => by rcases Nat.lt_or_ge j 2 with g | g; exact HK.out j g; rw [show j = 2 by omega]; simpa using Ne.symm HE.out)⟩
          case measure => simp [intOf]
      · have hidx : (((⟨#[34, 92, 47, 98, 102, 110, 114, 116]⟩ : ByteArray)[3]'(by decide)).toNat : Int) = 98 := by decide
        by_cases he : c = 98
        · have hes := escape_simple' s.data.toList i 8 (by rw [← HC.out, he]; rfl)
          have HES := Lib.hid (HR.out.trans hes)
          subst he
          clear hes HK
          go_wp2_with fail
          go_ret
          exact RG.ok HES.out ((Mv.refl b _).set (.inl rfl) _) ⟨ret_str (show (⟨#[34, 92, 47, 8, 12, 10, 13, 9]⟩ : ByteArray).extract 3 4 = ⟨#[8]⟩ by decide), H.out.set1 _⟩
        · have hne : (((98 : UInt8).toNat : Int) == (c.toNat : Int)) = false := u8ne (Ne.symm he)
          have hne2 : ((98 : Int) == (c.toNat : Int)) = false := hne
          have HE := Lib.hid he
          clear he hne
          go_wp2_with fail
          go_round
          case rel => exact ⟨3 + 1, by go_num, by omega, Lib.hid (fun j h => by rcases Nat.lt_or_ge j 3 with g | g; exact HK.out j g; rw [show j = 3 by omega]; simpa using Ne.symm HE.out)⟩
          case measure => simp [intOf]
      · have hidx : (((⟨#[34, 92, 47, 98, 102, 110, 114, 116]⟩ : ByteArray)[4]'(by decide)).toNat : Int) = 102 := by decide
        by_cases he : c = 102
        · have hes := escape_simple' s.data.toList i 12 (by rw [← HC.out, he]; rfl)
          have HES := Lib.hid (HR.out.trans hes)
          subst he
          clear hes HK
          go_wp2_with fail
          go_ret
          exact RG.ok HES.out ((Mv.refl b _).set (.inl rfl) _) ⟨ret_str (show (⟨#[34, 92, 47, 8, 12, 10, 13, 9]⟩ : ByteArray).extract 4 5 = ⟨#[12]⟩ by decide), H.out.set1 _⟩
        · have hne : (((102 : UInt8).toNat : Int) == (c.toNat : Int)) = false := u8ne (Ne.symm he)
          have hne2 : ((102 : Int) == (c.toNat : Int)) = false := hne
          have HE := Lib.hid he
          clear he hne
          go_wp2_with fail
          go_round
          case rel => exact ⟨4 + 1, by go_num, by omega, Lib.hid (fun j h => by rcases Nat.lt_or_ge j 4 with g | g; exact HK.out j g; rw [show j = 4 by omega]; simpa using Ne.symm HE.out)⟩
          case measure => simp [intOf]
      · have hidx : (((⟨#[34, 92, 47, 98, 102, 110, 114, 116]⟩ : ByteArray)[5]'(by decide)).toNat : Int) = 110 := by decide
        by_cases he : c = 110
        · have hes := escape_simple' s.data.toList i 10 (by rw [← HC.out, he]; rfl)
          have HES := Lib.hid (HR.out.trans hes)
          subst he
          clear hes HK
          go_wp2_with fail
          go_ret
          exact RG.ok HES.out ((Mv.refl b _).set (.inl rfl) _) ⟨ret_str (show (⟨#[34, 92, 47, 8, 12, 10, 13, 9]⟩ : ByteArray).extract 5 6 = ⟨#[10]⟩ by decide), H.out.set1 _⟩
        · have hne : (((110 : UInt8).toNat : Int) == (c.toNat : Int)) = false := u8ne (Ne.symm he)
          have hne2 : ((110 : Int) == (c.toNat : Int)) = false := hne
          have HE := Lib.hid he
          clear he hne
          go_wp2_with fail
          go_round
          case rel => exact ⟨5 + 1, by go_num, by omega, Lib.hid (fun j h => by rcases Nat.lt_or_ge j 5 with g | g; exact HK.out j g; rw [show j = 5 by omega]; simpa using Ne.symm HE.out)⟩
          case measure => simp [intOf]
      · have hidx : (((⟨#[34, 92, 47, 98, 102, 110, 114, 116]⟩ : ByteArray)[6]'(by decide)).toNat : Int) = 114 := by decide
        by_cases he : c = 114
        · have hes := escape_simple' s.data.toList i 13 (by rw [← HC.out, he]; rfl)
          have HES := Lib.hid (HR.out.trans hes)
          subst he
          clear hes HK
          go_wp2_with fail
          go_ret
          exact RG.ok HES.out ((Mv.refl b _).set (.inl rfl) _) ⟨ret_str (show (⟨#[34, 92, 47, 8, 12, 10, 13, 9]⟩ : ByteArray).extract 6 7 = ⟨#[13]⟩ by decide), H.out.set1 _⟩
        · have hne : (((114 : UInt8).toNat : Int) == (c.toNat : Int)) = false := u8ne (Ne.symm he)
          have hne2 : ((114 : Int) == (c.toNat : Int)) = false := hne
          have HE := Lib.hid he
          clear he hne
          go_wp2_with fail
          go_round
          case rel => exact ⟨6 + 1, by go_num, by omega, Lib.hid (fun j h => by rcases Nat.lt_or_ge j 6 with g | g; exact HK.out j g; rw [show j = 6 by omega]; simpa using Ne.symm HE.out)⟩
          case measure => simp [intOf]
      · have hidx : (((⟨#[34, 92, 47, 98, 102, 110, 114, 116]⟩ : ByteArray)[7]'(by decide)).toNat : Int) = 116 := by decide
        by_cases he : c = 116
        · have hes := escape_simple' s.data.toList i 9 (by rw [← HC.out, he]; rfl)
          have HES := Lib.hid (HR.out.trans hes)
          subst he
          clear hes HK
          go_wp2_with fail
          go_ret
          exact RG.ok HES.out ((Mv.refl b _).set (.inl rfl) _) ⟨ret_str (show (⟨#[34, 92, 47, 8, 12, 10, 13, 9]⟩ : ByteArray).extract 7 8 = ⟨#[9]⟩ by decide), H.out.set1 _⟩
        · have hne : (((116 : UInt8).toNat : Int) == (c.toNat : Int)) = false := u8ne (Ne.symm he)
          have hne2 : ((116 : Int) == (c.toNat : Int)) = false := hne
          have HE := Lib.hid he
          clear he hne
          go_wp2_with fail
          go_round
          case rel => exact ⟨7 + 1, by go_num, by omega, Lib.hid (fun j h => by rcases Nat.lt_or_ge j 7 with g | g; exact HK.out j g; rw [show j = 7 by omega]; simpa using Ne.symm HE.out)⟩
          case measure => simp [intOf]
      · have hsn : Cx.simple c = none := by
          have h0 := HK.out 0 (by omega); have h1 := HK.out 1 (by omega); have h2 := HK.out 2 (by omega); have h3 := HK.out 3 (by omega)
          have h4 := HK.out 4 (by omega); have h5 := HK.out 5 (by omega); have h6 := HK.out 6 (by omega); have h7 := HK.out 7 (by omega)
          simp at h0 h1 h2 h3 h4 h5 h6 h7
          unfold Cx.simple
          rw [if_neg (Ne.symm h0), if_neg (Ne.symm h1), if_neg (Ne.symm h2), if_neg (Ne.symm h3), if_neg (Ne.symm h4), if_neg (Ne.symm h5), if_neg (Ne.symm h6), if_neg (Ne.symm h7)]
        have hru := escape_unit' s.data.toList i (by rw [← HC.out]; exact hsn)
        have HRU := Lib.hid (HR.out.trans hru)
        clear hsn hru HK
        cases hu : Cx.unit s.data.toList i with
        | none =>
          have h1 := unitI_none hu
          have hr := HRU.out
          rw [hu] at hr
          have HE := Lib.hid hr
          have his : Cx.isRune (-1) = false := by decide
          clear hu hr HRU
          go_wp2_with fail
          refine (show Calls Tryz.prog 112 #[.pointer (some ⟨b, 0, none⟩), .int .i64 i] _ _ from unit2_calls s i i m 0 0 b _ H.out (by omega) hs).mono ?_
          rintro e w' ⟨rfl, hw'⟩
          subst hw'
          rw [h1]
          go_wp2_with fail
          refine (is10_calls _ _).mono ?_
          rintro e w' ⟨rfl, hw'⟩
          subst hw'
          rw [his]
          go_wp2_with fail
          refine (fail_calls s i m 0 7 i b _ H.out).mono ?_
          rintro e w' ⟨rfl, k1, k2⟩
          go_wp2_with fail
          go_ret
          exact RG.err HE.out k2 rfl (show (7 : Nat) ≠ 0 by decide) (Nat.le_of_lt hi) k1
        | some v =>
          obtain ⟨V, hV⟩ : ∃ V : Int, V = (v : Int) := ⟨_, rfl⟩
          have h1 : unitI s.data.toList i = V := (unitI_some hu).trans hV.symm
          have HV := Lib.hid hV
          have hv16 := (Cx.unit_ok hu).2
          have hr := HRU.out
          rw [hu] at hr
          simp only at hr
          clear hu HRU
          by_cases hs1 : 55296 ≤ v ∧ v < 56320
          · rw [if_pos hs1] at hr
            have his : Cx.isRune V = false := by
              rw [hV]
              cases hx : Cx.isRune (v : Int) with
              | false => rfl
              | true => have := Cx.isRune_iff.1 hx; omega
            have i1 : (55296 : Int) ≤ V := by omega
            have i2 : V < 56320 := by omega
            cases hu2 : Cx.unit s.data.toList (i + 6) with
            | none =>
              have h2 := unitI_none hu2
              rw [hu2] at hr
              have HE := Lib.hid hr
              clear hu2 hr hV hv16 hs1
              go_wp2_with fail
              refine (show Calls Tryz.prog 112 #[.pointer (some ⟨b, 0, none⟩), .int .i64 i] _ _ from unit2_calls s i i m 0 0 b _ H.out (by omega) hs).mono ?_
              rintro e w' ⟨rfl, hw'⟩
              subst hw'
              rw [h1]
              go_wp2_with fail
              refine (show Calls Tryz.prog 112 #[.pointer (some ⟨b, 0, none⟩), .int .i64 ((i : Int) + 6)] _ _ from unit2_calls s i (i + 6) m 0 0 b _ H.out (by omega) hs).mono ?_
              rintro e w' ⟨rfl, hw'⟩
              subst hw'
              rw [h2]
              go_wp2_with fail
              refine (is10_calls _ _).mono ?_
              rintro e w' ⟨rfl, hw'⟩
              subst hw'
              rw [his]
              go_wp2_with fail
              refine (fail_calls s i m 0 7 i b _ H.out).mono ?_
              rintro e w' ⟨rfl, k1, k2⟩
              go_wp2_with fail
              go_ret
              exact RG.err HE.out k2 rfl (show (7 : Nat) ≠ 0 by decide) (Nat.le_of_lt hi) k1
            | some low =>
              obtain ⟨L, hL⟩ : ∃ L : Int, L = (low : Int) := ⟨_, rfl⟩
              have h2 : unitI s.data.toList (i + 6) = L := (unitI_some hu2).trans hL.symm
              have hl16 := (Cx.unit_ok hu2).2
              have hl12 := (Cx.unit_ok hu2).1
              rw [hu2] at hr
              simp only at hr
              clear hu2
              by_cases hs2 : 56320 ≤ low ∧ low < 57344
              · rw [if_pos hs2] at hr
                have j1 : (56320 : Int) ≤ L := by omega
                have j2 : L < 57344 := by omega
                obtain ⟨x, hx⟩ : ∃ x : Nat, x = 65536 + (v - 55296) * 1024 + (low - 56320) := ⟨_, rfl⟩
                have hxI : 65536 + (V - 55296) * 1024 + L - 56320 = (x : Int) := by omega
                rw [← hx] at hr
                have hxl : x ≤ 1114111 := by omega
                have his2 : Cx.isRune (x : Int) = true := Cx.isRune_iff.2 (by omega)
                have HE := Lib.hid hr
                clear hr hx hV hL hv16 hl16 hs1 hs2
                go_wp2_with fail
                refine (show Calls Tryz.prog 112 #[.pointer (some ⟨b, 0, none⟩), .int .i64 i] _ _ from unit2_calls s i i m 0 0 b _ H.out (by omega) hs).mono ?_
                rintro e w' ⟨rfl, hw'⟩
                subst hw'
                rw [h1]
                go_wp2_with fail
                refine (show Calls Tryz.prog 112 #[.pointer (some ⟨b, 0, none⟩), .int .i64 ((i : Int) + 6)] _ _ from unit2_calls s i (i + 6) m 0 0 b _ H.out (by omega) hs).mono ?_
                rintro e w' ⟨rfl, hw'⟩
                subst hw'
                rw [h2]
                go_wp2_with fail
                refine (is10_calls _ _).mono ?_
                rintro e w' ⟨rfl, hw'⟩
                subst hw'
                rw [his2]
                go_wp2_with fail
                refine (show Calls Tryz.prog 114 #[.int .i64 (x : Int)] _ _ from bytes10_calls x (by omega) _).mono ?_
                rintro e w7 ⟨rfl, hb7⟩
                go_wp2_with fail
                go_ret
                have hr7 : R2 b s ((i + 12 : Nat) : Int) m 0 0 w7 := (show R2 b s ((i + 12 : Nat) : Int) m 0 0 _ from H.out.set1 _).below hb7
                exact RG.ok HE.out (((Mv.refl b _).set (.inl rfl) _).below hb7) ⟨rfl, hr7⟩
              · rw [if_neg hs2] at hr
                have HE := Lib.hid hr
                clear hr
                by_cases j1 : (56320 : Int) ≤ L
                · have j2 : (57344 : Int) ≤ L := by omega
                  clear hs2 hs1 hV hL hv16 hl16
                  go_wp2_with fail
                  refine (show Calls Tryz.prog 112 #[.pointer (some ⟨b, 0, none⟩), .int .i64 i] _ _ from unit2_calls s i i m 0 0 b _ H.out (by omega) hs).mono ?_
                  rintro e w' ⟨rfl, hw'⟩
                  subst hw'
                  rw [h1]
                  go_wp2_with fail
                  refine (show Calls Tryz.prog 112 #[.pointer (some ⟨b, 0, none⟩), .int .i64 ((i : Int) + 6)] _ _ from unit2_calls s i (i + 6) m 0 0 b _ H.out (by omega) hs).mono ?_
                  rintro e w' ⟨rfl, hw'⟩
                  subst hw'
                  rw [h2]
                  go_wp2_with fail
                  refine (is10_calls _ _).mono ?_
                  rintro e w' ⟨rfl, hw'⟩
                  subst hw'
                  rw [his]
                  go_wp2_with fail
                  refine (fail_calls s i m 0 7 i b _ H.out).mono ?_
                  rintro e w' ⟨rfl, k1, k2⟩
                  go_wp2_with fail
                  go_ret
                  exact RG.err HE.out k2 rfl (show (7 : Nat) ≠ 0 by decide) (Nat.le_of_lt hi) k1
                · have j1 : L < 56320 := by omega
                  clear hs2 hs1 hV hL hv16 hl16
                  go_wp2_with fail
                  refine (show Calls Tryz.prog 112 #[.pointer (some ⟨b, 0, none⟩), .int .i64 i] _ _ from unit2_calls s i i m 0 0 b _ H.out (by omega) hs).mono ?_
                  rintro e w' ⟨rfl, hw'⟩
                  subst hw'
                  rw [h1]
                  go_wp2_with fail
                  refine (show Calls Tryz.prog 112 #[.pointer (some ⟨b, 0, none⟩), .int .i64 ((i : Int) + 6)] _ _ from unit2_calls s i (i + 6) m 0 0 b _ H.out (by omega) hs).mono ?_
                  rintro e w' ⟨rfl, hw'⟩
                  subst hw'
                  rw [h2]
                  go_wp2_with fail
                  refine (is10_calls _ _).mono ?_
                  rintro e w' ⟨rfl, hw'⟩
                  subst hw'
                  rw [his]
                  go_wp2_with fail
                  refine (fail_calls s i m 0 7 i b _ H.out).mono ?_
                  rintro e w' ⟨rfl, k1, k2⟩
                  go_wp2_with fail
                  go_ret
                  exact RG.err HE.out k2 rfl (show (7 : Nat) ≠ 0 by decide) (Nat.le_of_lt hi) k1
          · rw [if_neg hs1] at hr
            by_cases hs2 : 55296 ≤ v ∧ v < 57344
            · rw [if_pos hs2] at hr
              have HE := Lib.hid hr
              have his : Cx.isRune V = false := by
                rw [hV]
                cases hx : Cx.isRune (v : Int) with
                | false => rfl
                | true => have := Cx.isRune_iff.1 hx; omega
              have i1 : (55296 : Int) ≤ V := by omega
              have i2 : (56320 : Int) ≤ V := by omega
              clear hr hs1 hs2 hV hv16
              go_wp2_with fail
              refine (show Calls Tryz.prog 112 #[.pointer (some ⟨b, 0, none⟩), .int .i64 i] _ _ from unit2_calls s i i m 0 0 b _ H.out (by omega) hs).mono ?_
              rintro e w' ⟨rfl, hw'⟩
              subst hw'
              rw [h1]
              go_wp2_with fail
              refine (is10_calls _ _).mono ?_
              rintro e w' ⟨rfl, hw'⟩
              subst hw'
              rw [his]
              go_wp2_with fail
              refine (fail_calls s i m 0 7 i b _ H.out).mono ?_
              rintro e w' ⟨rfl, k1, k2⟩
              go_wp2_with fail
              go_ret
              exact RG.err HE.out k2 rfl (show (7 : Nat) ≠ 0 by decide) (Nat.le_of_lt hi) k1
            · rw [if_neg hs2] at hr
              have HE := Lib.hid hr
              have his : Cx.isRune V = true := Cx.isRune_iff.2 (by omega)
              have hvl : v ≤ 1114111 := by omega
              have HVL := Lib.hid hvl
              clear hvl
              clear hr
              by_cases i1 : (55296 : Int) ≤ V
              · have i2 : (56320 : Int) ≤ V := by omega
                clear hs1 hs2 hV hv16
                go_wp2_with fail
                refine (show Calls Tryz.prog 112 #[.pointer (some ⟨b, 0, none⟩), .int .i64 i] _ _ from unit2_calls s i i m 0 0 b _ H.out (by omega) hs).mono ?_
                rintro e w' ⟨rfl, hw'⟩
                subst hw'
                rw [h1]
                go_wp2_with fail
                refine (is10_calls _ _).mono ?_
                rintro e w' ⟨rfl, hw'⟩
                subst hw'
                rw [his]
                go_wp2_with fail
                refine (show Calls Tryz.prog 114 #[.int .i64 V] _ _ from by rw [HV.out]; exact bytes10_calls v HVL.out _).mono ?_
                rintro e w7 ⟨rfl, hb7⟩
                go_wp2_with fail
                go_ret
                have hr7 : R2 b s ((i + 6 : Nat) : Int) m 0 0 w7 := (show R2 b s ((i + 6 : Nat) : Int) m 0 0 _ from H.out.set1 _).below hb7
                exact RG.ok HE.out (((Mv.refl b _).set (.inl rfl) _).below hb7) ⟨rfl, hr7⟩
              · have i1 : V < 55296 := by omega
                clear hs1 hs2 hV hv16
                go_wp2_with fail
                refine (show Calls Tryz.prog 112 #[.pointer (some ⟨b, 0, none⟩), .int .i64 i] _ _ from unit2_calls s i i m 0 0 b _ H.out (by omega) hs).mono ?_
                rintro e w' ⟨rfl, hw'⟩
                subst hw'
                rw [h1]
                go_wp2_with fail
                refine (is10_calls _ _).mono ?_
                rintro e w' ⟨rfl, hw'⟩
                subst hw'
                rw [his]
                go_wp2_with fail
                refine (show Calls Tryz.prog 114 #[.int .i64 V] _ _ from by rw [HV.out]; exact bytes10_calls v HVL.out _).mono ?_
                rintro e w7 ⟨rfl, hb7⟩
                go_wp2_with fail
                go_ret
                have hr7 : R2 b s ((i + 6 : Nat) : Int) m 0 0 w7 := (show R2 b s ((i + 6 : Nat) : Int) m 0 0 _ from H.out.set1 _).below hb7
                exact RG.ok HE.out (((Mv.refl b _).set (.inl rfl) _).below hb7) ⟨rfl, hr7⟩
end Go.Proofs.YtbdmepilmoomeaaGreatDoor

namespace Go.Proofs.YtbdmepilmoomeaaGreatDoor
open Go.RowKit

theorem app_bytes2 (a b : List UInt8) : ((⟨a.toArray⟩ : ByteArray) ++ ⟨b.toArray⟩) = ⟨(a ++ b).toArray⟩ := by
  apply ByteArray.ext
  simp
theorem Mv.like {b : Nat} {w w' w2 : World} (h : Mv b w w') (h1 : w2.os = w'.os) (h2 : w2.tape = w'.tape) (h3 : w2.output = w'.output) (h4 : w2.heap = w'.heap) : Mv b w w2 :=
  ⟨h1.trans h.os, h2.trans h.tape, h3.trans h.output, by rw [h4]; exact h.size, fun i hi hn => by rw [h4]; exact h.block i hi hn⟩
theorem Mv.likeB {b : Nat} {w w' w2 w3 : World} (h : Mv b w w') (k : Below w2.heap.size w2 w3) (h1 : w2.os = w'.os) (h2 : w2.tape = w'.tape) (h3 : w2.output = w'.output) (h4 : w2.heap = w'.heap) : Mv b w w3 := (h.like h1 h2 h3 h4).below k
theorem R2.likeB {b : Nat} {s : ByteArray} {i m e p : Int} {w' w2 w3 : World} (h : R2 b s i m e p w') (k : Below w2.heap.size w2 w3) (h4 : w2.heap = w'.heap) : R2 b s i m e p w3 := R2.below (show R2 b s i m e p w2 by unfold R2; rw [h4]; exact h) k
theorem rune10_ok (s : ByteArray) (w : World) (hs : s.size ≤ maxLen) (h : Cx.runeLen s.data.toList ≠ 0) :
    Calls Tryz.prog 87 #[.string s] w fun e w' => ∃ v : Int, 0 ≤ v ∧ e = .returned (.tuple #[.int .i64 v, .int .i64 (Cx.runeLen s.data.toList)]) ∧ Below w.heap.size w w' := by
  refine (rune10_calls s w hs).mono ?_
  rintro e w' ⟨hb, h1, _⟩
  obtain ⟨v, hv, he⟩ := h1 h
  exact ⟨v, hv, he, hb⟩
theorem rune10_bad (s : ByteArray) (w : World) (hs : s.size ≤ maxLen) (h : Cx.runeLen s.data.toList = 0) (hne : s.data.toList ≠ []) :
    Calls Tryz.prog 87 #[.string s] w fun e w' => e = .returned (.tuple #[.int .i64 (-1), .int .i64 1]) ∧ Below w.heap.size w w' := by
  refine (rune10_calls s w hs).mono ?_
  rintro e w' ⟨hb, _, h2⟩
  have := h2 h
  rw [if_neg hne] at this
  exact ⟨this, hb⟩

set_option maxRecDepth 100000 in
set_option maxHeartbeats 4000000 in
theorem text2_calls (s : ByteArray) (i : Nat) (m : Int) (b : Nat) (w : World) (h : R2 b s i m 0 0 w) (hq : Cx.peek s.data.toList i = 34) (hs : s.size ≤ 100000) :
    Calls Tryz.prog 56 #[.pointer (some ⟨b, 0, none⟩)] w (RG (Cx.text s.data.toList i) (Text2 b s m) Str b s w) := by
  have q1 := h.c1; have qf := h.fr 1
  have hs' : s.size ≤ maxLen := by unfold maxLen; omega
  have hi : i < s.size := Cx.peek_lt (s := s.data.toList) (by rw [hq]; decide)
  have hsl : s.data.toList.length = s.size := rfl
  obtain ⟨RES, hRES⟩ : ∃ RES, RES = Cx.text s.data.toList i := ⟨_, rfl⟩
  rw [← hRES]
  unfold Cx.text at hRES
  rw [if_pos hq] at hRES
  have HRES := Lib.hid hRES
  have R1 := Lib.hid (h.set1 ((i + 1 : Nat) : Int)); have M1 := Lib.hid ((Mv.refl b w).set (a := ⟨b, 1, none⟩) (.inl rfl) (.int .i64 ((i + 1 : Nat) : Int)))
  clear h hRES hq
  go_enter Tryz.func56, Tryz.ntmps56
  go_wp2_with fail
  go_loopg [3] (s.size - i) (fun q o wr => ∃ acc : List UInt8, o = .string ⟨acc.toArray⟩ ∧ acc.length ≤ 200000 ∧ Hid (Mv b w wr) ∧
    ((∃ j : Nat, i < j ∧ j ≤ s.size ∧ s.size < j + q ∧ acc.length ≤ j ∧ Hid (RES = Cx.textN s.data.toList q j acc) ∧ Hid (R2 b s j m 0 0 wr)) ∨ (∃ (x : Nat × Nat) (j : Nat) (m2 : Int), Hid (RES = .error x) ∧ Hid (x.1 ≠ 0) ∧ j ≤ s.size ∧ Hid (R2 b s j m2 x.1 x.2 wr))))
  case atStart => exact ⟨[], rfl, by simp, M1, .inl ⟨i + 1, by omega, by omega, by omega, by simp, HRES, R1⟩⟩
  case round =>
    clear HRES R1 M1 q1 qf
    obtain ⟨acc, rfl, hal, MV, hst⟩ := hrel
    rcases hst with ⟨j, hij, hjl, hjq, haj, HR, RD⟩ | ⟨x, j, m2, HX, HX1, hjl, RD⟩
    rotate_left
    · have hx0 : ((x.1 : Int) == 0) = false := by have := HX1.out; rw [beq_eq_false_iff_ne]; omega
      go_wp2_with fail
      refine (ok_calls s j m2 _ _ b _ RD.out).mono ?_
      rintro e w' ⟨rfl, hw'⟩
      subst hw'
      rw [hx0]
      go_wp2_with fail
      go_ret
      exact RG.err HX.out MV.out rfl HX1.out hjl RD.out
    obtain ⟨q, rfl⟩ : ∃ q, gk = q + 1 := ⟨gk - 1, by omega⟩
    have hr := HR.out
    rw [Cx.textN_succ] at hr
    clear HR
    have c0 := RD.out.c0; have c1 := RD.out.c1; have hf := RD.out.fr 1
    by_cases hend : j = s.size
    · subst hend
      rw [Cx.peek_end (by omega), if_pos (by decide)] at hr
      have HE := Lib.hid hr
      clear hr
      go_wp2_with fail
      refine (ok_calls s _ m _ _ b _ RD.out).mono ?_
      rintro e w' ⟨rfl, hw'⟩
      subst hw'
      go_wp2_with fail
      go_quiet (fail)
      go_wp2_with fail
      refine (fail_calls s _ m 0 7 _ b _ (RD.out.drewN _)).mono ?_
      rintro e w2 ⟨rfl, k1, k2⟩
      have K1 := Lib.hid k1; have K2 := Lib.hid k2
      clear k1 k2
      go_wp2_with fail
      go_ret
      exact RG.err HE.out ((MV.out.drewN _).trans K2.out) rfl (show (7 : Nat) ≠ 0 by decide) (Nat.le_refl _) K1.out
    have hjlt : j < s.size := by omega
    obtain ⟨c, hc⟩ : ∃ c, c = s[j]'hjlt := ⟨_, rfl⟩
    have hpk : Cx.peek s.data.toList j = c := by rw [hc]; exact peek_size hjlt
    have hcv : ((s[j]'hjlt).toNat : Int) = (c.toNat : Int) := by rw [hc]
    rw [hpk] at hr
    have HPK := Lib.hid hpk
    clear hc hpk
    have hc256 := c.toNat_lt
    by_cases h34 : c = 34
    · subst h34
      rw [if_neg (by decide), if_pos rfl] at hr
      have HE := Lib.hid hr
      clear hr
      go_wp2_with fail
      refine (ok_calls s _ m _ _ b _ RD.out).mono ?_
      rintro e w' ⟨rfl, hw'⟩
      subst hw'
      go_wp2_with fail
      go_quiet (fail)
      go_wp2_with fail
      go_quiet (fail)
      go_wp2_with fail
      go_ret
      exact RG.ok HE.out ((MV.out.drewN _).set (.inl rfl) _) ⟨rfl, (RD.out.drewN _).set1 _⟩
    have n34 : ((c.toNat : Int) == 34) = false := u8ne (k := 34) h34
    by_cases h92 : c = 92
    · subst h92
      rw [if_neg (by decide), if_neg (by decide), if_pos rfl] at hr
      have HE := Lib.hid hr
      clear hr h34
      go_wp2_with fail
      refine (ok_calls s _ m _ _ b _ RD.out).mono ?_
      rintro e w' ⟨rfl, hw'⟩
      subst hw'
      go_wp2_with fail
      go_quiet (fail)
      go_wp2_with fail
      go_quiet (fail)
      go_wp2_with fail
      refine (escape2_calls s j m b _ (RD.out.drewN _) hjlt hs).mono ?_
      intro e w2 hgv
      cases hw : Cx.escape s.data.toList j with
      | error x =>
        obtain ⟨k2, rfl, hx1, j2, m2, hj2, k3⟩ := hgv.of_err hw
        have hr := HE.out
        rw [hw] at hr
        have HE2 := Lib.hid hr; have K2 := Lib.hid ((MV.out.drewN _).trans k2); have K3 := Lib.hid k3; have HX1 := Lib.hid hx1
        clear hr hw hgv k2 k3 hx1 c0 c1 hf
        go_wp2_with fail
        go_roundg q
        case measure => omega
        case rel => exact ⟨acc, congrArg Value.string (by have := app_bytes2 acc []; rw [List.append_nil] at this; exact this), hal, K2, .inr ⟨x, j2, m2, HE2, HX1, hj2, K3⟩⟩
      | ok a =>
        obtain ⟨t, j2⟩ := a
        obtain ⟨⟨rfl, k1⟩, k2⟩ := hgv.of_ok hw
        have hr := HE.out
        rw [hw] at hr
        have hlen := Cx.escape_length hw
        have hok := Cx.escape_ok hw
        have hj2a : j < j2 := hok.1
        have hj2b : j2 ≤ s.size := hok.2.1
        have hcat := app_bytes2 acc t
        have HE2 := Lib.hid hr; have K2 := Lib.hid ((MV.out.drewN _).trans k2); have K1 := Lib.hid k1; have HCAT := Lib.hid hcat
        clear hr hw hgv k2 k1 hok hcat c0 c1 hf
        have htl : acc.length + t.length ≤ 200000 := by omega
        go_wp2_with fail
        go_roundg q
        case measure => omega
        case rel => exact ⟨acc ++ t, by rw [HCAT.out], by simp; omega, K2, .inl ⟨j2, by omega, hj2b, by omega, by simp; omega, HE2, K1⟩⟩
    have n92 : ((c.toNat : Int) == 92) = false := u8ne (k := 92) h92
    by_cases h32 : c < 32
    · rw [if_pos h32] at hr
      have HE := Lib.hid hr
      have hlt32 : (c.toNat : Int) < 32 := by rw [UInt8.lt_iff_toNat_lt] at h32; simp at h32; omega
      clear hr h34 h92 h32
      go_wp2_with fail
      refine (ok_calls s _ m _ _ b _ RD.out).mono ?_
      rintro e w' ⟨rfl, hw'⟩
      subst hw'
      go_wp2_with fail
      go_quiet (fail)
      go_wp2_with fail
      go_quiet (fail)
      go_wp2_with fail
      refine (fail_calls s _ m 0 7 _ b _ (RD.out.drewN _)).mono ?_
      rintro e w2 ⟨rfl, k1, k2⟩
      have K1 := Lib.hid k1; have K2 := Lib.hid ((MV.out.drewN _).trans k2)
      clear k1 k2 c0 c1 hf
      go_wp2_with fail
      go_roundg q
      case measure => omega
      case rel => exact ⟨acc, rfl, hal, K2, .inr ⟨(7, j), j, m, HE, Lib.hid (show (7 : Nat) ≠ 0 by decide), hjl, K1⟩⟩
    have hlt32 : ¬ (c.toNat : Int) < 32 := by rw [UInt8.lt_iff_toNat_lt] at h32; simp at h32; omega
    rw [if_neg h32, if_neg h34, if_neg h92] at hr
    have hdl : (s.extract j s.size).data.toList = s.data.toList.drop j := by rw [extract_list]; simp only; exact List.take_of_length_le (by simp)
    have hdn : s.data.toList.drop j ≠ [] := by
      intro e
      have := congrArg List.length e
      simp at this; omega
    have hds : (s.extract j s.size).size ≤ maxLen := by
      have := congrArg List.length hdl
      simp at this
      show (s.extract j s.size).data.toList.length ≤ maxLen
      rw [hdl]; simp; unfold maxLen; omega
    have HDS := Lib.hid hds
    have hrl := Cx.runeLen_le (s.data.toList.drop j)
    have hrl2 : Cx.runeLen (s.data.toList.drop j) ≤ s.size - j := by have := hrl.1; simpa using this
    obtain ⟨n, hn⟩ : ∃ n, n = Cx.runeLen (s.data.toList.drop j) := ⟨_, rfl⟩
    rw [← hn] at hr hrl2
    have hn2 : Cx.runeLen (s.extract j s.size).data.toList = n := by rw [hdl]; exact hn.symm
    have hdn2 : (s.extract j s.size).data.toList ≠ [] := by rw [hdl]; exact hdn
    have HN2 := Lib.hid hn2; have HDN2 := Lib.hid hdn2
    clear hdl hdn hds hrl hn hn2 hdn2 h34 h92 h32
    by_cases hz : n = 0
    · subst hz
      rw [if_pos rfl] at hr
      have HE := Lib.hid hr
      clear hr
      have hcat := app_bytes2 acc ((s.data.toList.drop j).take (j + 1 - j))
      rw [← extract_list] at hcat
      have HCAT := Lib.hid hcat
      have hxl : ((s.data.toList.drop j).take (j + 1 - j)).length ≤ 1 := Nat.le_trans (List.length_take_le _ _) (by omega)
      have hxs : (s.extract j (j + 1)).size ≤ 1 := by rw [extract_list]; show (List.toArray _).size ≤ 1; rw [List.size_toArray]; exact hxl
      clear hcat
      go_wp2_with fail
      refine (ok_calls s _ m _ _ b _ RD.out).mono ?_
      rintro e w' ⟨rfl, hw'⟩
      subst hw'
      go_wp2_with fail
      go_quiet (fail)
      go_wp2_with fail
      go_quiet (fail)
      go_wp2_with fail
      go_region_held3 (fun w' => w'.cell? ⟨b, 0, none⟩ = some (.string s) ∧ w'.cell? ⟨b, 1, none⟩ = some (.int .i64 j)) (first | exact ⟨c0, c1⟩ | exact ⟨(hb7.cell RD.out.lt).trans c0, (hb7.cell RD.out.lt).trans c1⟩ | go_keep)
        (first | (go_at_call 87; refine (rune10_bad _ _ HDS.out HN2.out HDN2.out).mono ?_; rintro e w7 ⟨rfl, hb7⟩))
      have M7 := Lib.hid (MV.out.likeB hb7 rfl rfl rfl rfl)
      have r7 : R2 b s j m 0 0 w7 := RD.out.likeB hb7 rfl
      have R7 := Lib.hid r7
      clear hb7 r7 c0 c1 hf MV RD
      go_wp2_with fail
      refine (fail_calls s _ m 0 17 _ b _ R7.out).mono ?_
      rintro e w8 ⟨rfl, k1, k2⟩
      have K1 := Lib.hid k1; have K2 := Lib.hid (M7.out.trans k2)
      have c0 := k1.c0; have c1 := k1.c1; have hf := k1.fr 1
      clear k1 k2 M7 R7
      go_wp2_with fail
      go_quiet (fail)
      go_wp2_with fail
      go_roundg q
      case measure => omega
      case rel => exact ⟨_, congrArg Value.string HCAT.out, by rw [List.length_append]; omega, Lib.hid ((K2.out.drewN _).set (.inl rfl) _), .inr ⟨(17, j), j + 1, m, HE, Lib.hid (show (17 : Nat) ≠ 0 by decide), by omega, Lib.hid ((K1.out.drewN _).set1 _)⟩⟩
    · rw [if_neg hz] at hr
      have HE := Lib.hid hr
      clear hr
      obtain ⟨P, hP⟩ : ∃ P : List UInt8, P = (s.data.toList.drop j).take n := ⟨_, rfl⟩
      have hPl : P.length ≤ n := by rw [hP]; exact List.length_take_le _ _
      have hxe : s.extract j (j + n) = ⟨P.toArray⟩ := by rw [extract_list, show j + n - j = n by omega, hP]
      have hxs2 : (s.extract j (j + n)).size ≤ n := by rw [hxe]; show (List.toArray _).size ≤ n; rw [List.size_toArray]; exact hPl
      have hcat : ((⟨acc.toArray⟩ : ByteArray) ++ s.extract j (j + n)) = ⟨(acc ++ P).toArray⟩ := by rw [hxe]; exact app_bytes2 acc P
      rw [← hP] at HE
      have HCAT := Lib.hid hcat; have HXE := Lib.hid hxe
      have HZ : Hid (Cx.runeLen (s.extract j s.size).data.toList ≠ 0) := Lib.hid (by rw [HN2.out]; exact hz)
      clear hcat hP hxe hz
      go_wp2_with fail
      refine (ok_calls s _ m _ _ b _ RD.out).mono ?_
      rintro e w' ⟨rfl, hw'⟩
      subst hw'
      go_wp2_with fail
      go_quiet (fail)
      go_wp2_with fail
      go_quiet (fail)
      go_wp2_with fail
      go_region_held3 (fun w' => w'.cell? ⟨b, 0, none⟩ = some (.string s) ∧ w'.cell? ⟨b, 1, none⟩ = some (.int .i64 j)) (first | exact ⟨c0, c1⟩ | exact ⟨(hb7.cell RD.out.lt).trans c0, (hb7.cell RD.out.lt).trans c1⟩ | go_keep)
        (first | (go_at_call 87; refine (rune10_ok _ _ HDS.out HZ.out).mono ?_; rintro e w7 ⟨v, hv, rfl, hb7⟩; rw [HN2.out]))
      have M7 := Lib.hid (MV.out.likeB hb7 rfl rfl rfl rfl)
      have r7 : R2 b s j m 0 0 w7 := RD.out.likeB hb7 rfl
      have R7 := Lib.hid r7
      have c0 := r7.c0; have c1 := r7.c1; have hf := r7.fr 1
      have hnp : 0 < n := Nat.pos_of_ne_zero (by have := HZ.out; rw [HN2.out] at this; exact this)
      clear hb7 r7 MV RD
      go_wp2_with fail
      go_quiet (fail)
      go_wp2_with fail
      go_roundg q
      case measure => omega
      case rel => exact ⟨_, congrArg Value.string HCAT.out, by rw [List.length_append]; omega, Lib.hid ((M7.out.drewN _).set (.inl rfl) _), .inl ⟨j + n, by omega, by omega, by omega, by rw [List.length_append]; omega, HE, Lib.hid ((R7.out.drewN _).set1 _)⟩⟩
end Go.Proofs.YtbdmepilmoomeaaGreatDoor

namespace Go.Proofs.YtbdmepilmoomeaaGreatDoor
open Go.RowKit

set_option maxRecDepth 100000 in
set_option maxHeartbeats 2000000 in
theorem valid10_calls (s : ByteArray) (w : World) (hs : s.size ≤ maxLen) :
    Calls Tryz.prog 106 #[.string s] w fun e w' => e = .returned (.bool (Cx.valid s.data.toList)) ∧ Below w.heap.size w w' := by
  obtain ⟨V, hV⟩ : ∃ V, V = Cx.valid s.data.toList := ⟨_, rfl⟩
  rw [← hV]
  have HV := Lib.hid hV
  have HS := Lib.hid hs
  clear hV
  unfold maxLen at hs
  go_enter Tryz.func106, Tryz.ntmps106
  go_wp2_with fail
  go_loopg [0] (s.size + 1) (fun q z wr => ∃ t : ByteArray, z = .string t ∧ t.size < q ∧ t.size ≤ s.size ∧ Hid (V = Cx.valid t.data.toList) ∧ Hid (Below w.heap.size w wr))
  case atStart => exact ⟨s, rfl, by omega, by omega, HV, Lib.hid (Below.refl _ _)⟩
  case round =>
    obtain ⟨t, rfl, hq, hts, HT, HB⟩ := hrel
    by_cases h0 : t.size = 0
    · have hnil : t.data.toList = [] := List.length_eq_zero_iff.1 h0
      have hv : V = true := by rw [HT.out, hnil]; rfl
      have HVT := Lib.hid hv
      have h0I : ¬ (0 : Int) < (t.size : Int) := by omega
      clear hv hnil
      go_wp2_with fail
      go_ret
      rw [HVT.out]
      exact ⟨rfl, HB.out⟩
    · have h0I : (0 : Int) < (t.size : Int) := by omega
      have hne : t.data.toList ≠ [] := fun h => h0 (by have := congrArg List.length h; simpa using this)
      have hvc := Cx.valid_cons hne
      have hrl := Cx.runeLen_le t.data.toList
      have hrl2 : Cx.runeLen t.data.toList ≤ t.size := hrl.1
      have HNE := Lib.hid hne
      have HTL : Hid (t.size ≤ maxLen) := Lib.hid (Nat.le_trans hts HS.out)
      obtain ⟨n, hn⟩ : ∃ n, n = Cx.runeLen t.data.toList := ⟨_, rfl⟩
      rw [← hn] at hvc hrl2
      have HVC := Lib.hid (HT.out.trans hvc); have HN := Lib.hid hn
      clear hvc hrl hne hn h0
      by_cases hz : n = 0
      · subst hz
        have hv : V = false := by rw [HVC.out]; rfl
        have HVF := Lib.hid hv
        clear hv
        go_wp2_with fail
        refine (rune10_bad t _ HTL.out HN.out.symm HNE.out).mono ?_
        rintro e w3 ⟨rfl, hb⟩
        have HB3 := Lib.hid (HB.out.trans (hb.mono HB.out.size))
        clear hb
        go_wp2_with fail
        go_ret
        rw [HVF.out]
        exact ⟨rfl, HB3.out⟩
      · have hv : V = Cx.valid (t.extract n t.size).data.toList := by
          rw [HVC.out, decide_eq_true hz, Bool.true_and, extract_list]
          simp only
          rw [List.take_of_length_le (by simp)]
        have hes : (t.extract n t.size).size = t.size - n := by
          rw [extract_list]; show (List.toArray _).size = _
          rw [List.size_toArray, List.length_take, List.length_drop]
          show min (t.size - n) (t.size - n) = _
          omega
        have HVX := Lib.hid hv
        have hpos : 0 < n := Nat.pos_of_ne_zero hz
        clear hv hz
        go_wp2_with fail
        refine (rune10_ok t _ HTL.out (by rw [← HN.out]; omega)).mono ?_
        rintro e w3 ⟨v, hv0, rfl, hb⟩
        rw [← HN.out]
        have HB3 := Lib.hid (HB.out.trans (hb.mono HB.out.size))
        clear hb
        go_wp2_with fail
        go_roundg (gk - 1)
        case measure => omega
        case rel => exact ⟨_, rfl, by omega, by omega, HVX, HB3⟩

set_option maxRecDepth 100000 in
set_option maxHeartbeats 2000000 in
theorem isNumber2_calls (t : List UInt8) (w : World) (hs : t.length ≤ maxLen) :
    Calls Tryz.prog 105 #[.string ⟨t.toArray⟩] w fun e w' => e = .returned (.bool (decide (Cx.isNum t))) ∧ Below w.heap.size w w' := by
  obtain ⟨R, hR⟩ : ∃ R, R = decide (Cx.isNum t) := ⟨_, rfl⟩
  rw [← hR]
  have HR := Lib.hid hR
  have hts : (⟨t.toArray⟩ : ByteArray).size = t.length := by simp [ByteArray.size]
  have hrd : R2 w.heap.size ⟨t.toArray⟩ 0 0 0 0 (w.alloc (.cells #[.string ⟨t.toArray⟩, .int .i64 0, .int .i64 0, .int .i64 0, .int .i64 0] 54)) := heap_alloc_new w _
  have RD := Lib.hid hrd
  have HB := Lib.hid ((Below.refl w.heap.size w).alloc (Nat.le_refl _) (.cells #[.string ⟨t.toArray⟩, .int .i64 0, .int .i64 0, .int .i64 0, .int .i64 0] 54))
  clear hR hrd
  cases t with
  | nil =>
    have hr : R = false := by rw [HR.out]; decide
    have HRF := Lib.hid hr
    clear hr
    go_enter Tryz.func105, Tryz.ntmps105
    go_wp2_with fail
    go_ret
    rw [HRF.out]
    exact ⟨rfl, HB.out⟩
  | cons c l =>
  obtain ⟨T, hT⟩ : ∃ T, T = c :: l := ⟨_, rfl⟩
  have hpk : Cx.peek T 0 = c := by rw [hT]; rfl
  have hTs : (⟨T.toArray⟩ : ByteArray).size = T.length := by simp [ByteArray.size]
  have hTl : 0 < T.length := by rw [hT]; simp
  have hTe : (T == []) = false := by rw [hT]; rfl
  rw [← hT] at hs hts HR RD HB ⊢
  have hc0 : (((⟨T.toArray⟩ : ByteArray)[0]'(by rw [hTs]; exact hTl)).toNat : Int) = (c.toNat : Int) := by
    have := peek_size (s := ⟨T.toArray⟩) (i := 0) (by rw [hTs]; exact hTl)
    rw [← this, ← hpk]
  have HPK := Lib.hid hpk
  clear hT hpk
  unfold maxLen at hs
  by_cases hhead : c = 45 ∨ Cx.isDig c = true
  rotate_left
  · have hr : R = false := by
      rw [HR.out, decide_eq_false_iff_not]
      intro h
      have := Cx.isNum_head h
      rw [HPK.out] at this
      exact hhead this
    have HRF := Lib.hid hr
    have n45 : ((c.toNat : Int) == 45) = false := u8ne (k := 45) (fun h => hhead (.inl h))
    have n45' : ((c.toNat : Int) != 45) = true := by rw [bne, n45]; rfl
    have hd : Cx.isDig c = false := by
      cases hx : Cx.isDig c with
      | false => rfl
      | true => exact absurd (.inr hx) hhead
    have HD := Lib.hid hd
    clear hr hhead hd
    go_enter Tryz.func105, Tryz.ntmps105
    go_wp2_with fail
    refine (digit2_calls c _).mono ?_
    rintro e w' ⟨rfl, hw'⟩
    subst hw'
    rw [HD.out]
    go_wp2_with fail
    go_ret
    rw [HRF.out]
    exact ⟨rfl, HB.out⟩
  · have hr : Hid ((⟨T.toArray⟩ : ByteArray).size ≤ maxLen) := Lib.hid (by unfold maxLen; omega)
    have HSM := hr
    clear hr
    by_cases h45 : c = 45
    · subst h45
      clear hhead
      go_enter Tryz.func105, Tryz.ntmps105
      go_wp2_with fail
      refine (number2_calls ⟨T.toArray⟩ 0 0 w.heap.size _ RD.out (Nat.zero_le _) HSM.out).mono ?_
      intro e w3 hgv
      rw [show (⟨T.toArray⟩ : ByteArray).data.toList = T by simp] at hgv
      cases hw : Cx.number T 0 with
      | error x =>
        obtain ⟨k2, ⟨u, rfl⟩, hx1, j2, m2, hj2, k1⟩ := hgv.of_err hw
        have hr : R = false := by rw [HR.out, decide_eq_false_iff_not]; unfold Cx.isNum; rw [hw]; simp
        have hx0 : ((x.1 : Int) == 0) = false := by rw [beq_eq_false_iff_ne]; omega
        have HRF := Lib.hid hr; have K1 := Lib.hid k1; have HB3 := Lib.hid (Mv.to_below HB.out k2 (Nat.le_refl _) (by simp))
        clear hr hw hgv k1 k2 hx1
        go_wp2_with fail
        refine (ok_calls _ _ _ _ _ _ _ K1.out).mono ?_
        rintro e w' ⟨rfl, hw'⟩
        have hw' := hw'.symm
        subst hw'
        rw [hx0]
        go_wp2_with fail
        go_ret
        rw [HRF.out]
        exact ⟨rfl, HB3.out⟩
      | ok j =>
        obtain ⟨⟨rfl, k1⟩, k2⟩ := hgv.of_ok hw
        have hr : R = decide (j = T.length) := by
            have hiff : Cx.isNum T ↔ j = T.length := by unfold Cx.isNum; rw [hw]; simp
            rw [HR.out]; exact decide_eq_decide.2 hiff
        have hri : ((j : Int) == (T.length : Int)) = decide (j = T.length) := by
          rw [Bool.eq_iff_iff, beq_iff_eq, decide_eq_true_iff]; omega
        have HRI := Lib.hid (hr.trans hri.symm); have K1 := Lib.hid k1; have HB3 := Lib.hid (Mv.to_below HB.out k2 (Nat.le_refl _) (by simp))
        have q1 := k1.c1
        clear hr hri hw hgv k1 k2
        go_wp2_with fail
        refine (ok_calls _ _ _ _ _ _ _ K1.out).mono ?_
        rintro e w' ⟨rfl, hw'⟩
        have hw' := hw'.symm
        subst hw'
        go_wp2_with fail
        go_ret
        rw [HRI.out]
        exact ⟨rfl, HB3.out⟩
    · have hd := hhead.resolve_left h45
      have n45 : ((c.toNat : Int) == 45) = false := u8ne (k := 45) h45
      have n45' : ((c.toNat : Int) != 45) = true := by rw [bne, n45]; rfl
      have HD := Lib.hid hd
      clear hhead h45 hd
      go_enter Tryz.func105, Tryz.ntmps105
      go_wp2_with fail
      refine (digit2_calls c _).mono ?_
      rintro e w' ⟨rfl, hw'⟩
      subst hw'
      rw [HD.out]
      go_wp2_with fail
      refine (number2_calls ⟨T.toArray⟩ 0 0 w.heap.size _ RD.out (Nat.zero_le _) HSM.out).mono ?_
      intro e w3 hgv
      rw [show (⟨T.toArray⟩ : ByteArray).data.toList = T by simp] at hgv
      cases hw : Cx.number T 0 with
      | error x =>
        obtain ⟨k2, ⟨u, rfl⟩, hx1, j2, m2, hj2, k1⟩ := hgv.of_err hw
        have hr : R = false := by rw [HR.out, decide_eq_false_iff_not]; unfold Cx.isNum; rw [hw]; simp
        have hx0 : ((x.1 : Int) == 0) = false := by rw [beq_eq_false_iff_ne]; omega
        have HRF := Lib.hid hr; have K1 := Lib.hid k1; have HB3 := Lib.hid (Mv.to_below HB.out k2 (Nat.le_refl _) (by simp))
        clear hr hw hgv k1 k2 hx1
        go_wp2_with fail
        refine (ok_calls _ _ _ _ _ _ _ K1.out).mono ?_
        rintro e w' ⟨rfl, hw'⟩
        have hw' := hw'.symm
        subst hw'
        rw [hx0]
        go_wp2_with fail
        go_ret
        rw [HRF.out]
        exact ⟨rfl, HB3.out⟩
      | ok j =>
        obtain ⟨⟨rfl, k1⟩, k2⟩ := hgv.of_ok hw
        have hr : R = decide (j = T.length) := by
            have hiff : Cx.isNum T ↔ j = T.length := by unfold Cx.isNum; rw [hw]; simp
            rw [HR.out]; exact decide_eq_decide.2 hiff
        have hri : ((j : Int) == (T.length : Int)) = decide (j = T.length) := by
          rw [Bool.eq_iff_iff, beq_iff_eq, decide_eq_true_iff]; omega
        have HRI := Lib.hid (hr.trans hri.symm); have K1 := Lib.hid k1; have HB3 := Lib.hid (Mv.to_below HB.out k2 (Nat.le_refl _) (by simp))
        have q1 := k1.c1
        clear hr hri hw hgv k1 k2
        go_wp2_with fail
        refine (ok_calls _ _ _ _ _ _ _ K1.out).mono ?_
        rintro e w' ⟨rfl, hw'⟩
        have hw' := hw'.symm
        subst hw'
        go_wp2_with fail
        go_ret
        rw [HRI.out]
        exact ⟨rfl, HB3.out⟩
end Go.Proofs.YtbdmepilmoomeaaGreatDoor

