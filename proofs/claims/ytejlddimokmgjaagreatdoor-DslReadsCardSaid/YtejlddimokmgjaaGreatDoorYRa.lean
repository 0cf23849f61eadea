/- WALKS: the small methods of package codexref19's reader; a reader of it in memory. -/
import Derived.Test.YtejlddimokmgjaaGreatDoorKd
import Derived.Test.YtejlddimokmgjaaGreatDoorKa
namespace Go.Proofs.YtejlddimokmgjaaGreatDoor
open Go.RowKit

/-- A reader of the document's answer at a block: its text, its place, how many values began, its fault and where. -/
def R2 (b : Nat) (s : ByteArray) (i m e p : Int) (w : World) : Prop := w.heap[b]? = some (.cells #[.string s, .int .i64 i, .int .i64 m, .int .i64 e, .int .i64 p] 117 (0, 0))
theorem R2.c0 {b : Nat} {s : ByteArray} {i m e p : Int} {w : World} (h : R2 b s i m e p w) : w.cell? ⟨b, 0, none⟩ = some (.string s) := by unfold R2 at h; simp [World.cell?, h]
theorem R2.c1 {b : Nat} {s : ByteArray} {i m e p : Int} {w : World} (h : R2 b s i m e p w) : w.cell? ⟨b, 1, none⟩ = some (.int .i64 i) := by unfold R2 at h; simp [World.cell?, h]
theorem R2.c2 {b : Nat} {s : ByteArray} {i m e p : Int} {w : World} (h : R2 b s i m e p w) : w.cell? ⟨b, 2, none⟩ = some (.int .i64 m) := by unfold R2 at h; simp [World.cell?, h]
theorem R2.c3 {b : Nat} {s : ByteArray} {i m e p : Int} {w : World} (h : R2 b s i m e p w) : w.cell? ⟨b, 3, none⟩ = some (.int .i64 e) := by unfold R2 at h; simp [World.cell?, h]
theorem R2.c4 {b : Nat} {s : ByteArray} {i m e p : Int} {w : World} (h : R2 b s i m e p w) : w.cell? ⟨b, 4, none⟩ = some (.int .i64 p) := by unfold R2 at h; simp [World.cell?, h]
theorem R2.fr {b : Nat} {s : ByteArray} {i m e p : Int} {w : World} (h : R2 b s i m e p w) (o : Nat) : w.frozen? ⟨b, o, none⟩ = false := by unfold R2 at h; simp [World.frozen?, h]
theorem R2.lt {b : Nat} {s : ByteArray} {i m e p : Int} {w : World} (h : R2 b s i m e p w) : b < w.heap.size := by
  rcases Nat.lt_or_ge b w.heap.size with g | g
  · exact g
  · unfold R2 at h; rw [Array.getElem?_eq_none g] at h; cases h
theorem R2.drewN {b : Nat} {s : ByteArray} {i m e p : Int} {w : World} (h : R2 b s i m e p w) (n : Nat) : R2 b s i m e p (w.drewN n) := h
theorem R2.drew {b : Nat} {s : ByteArray} {i m e p : Int} {w : World} (h : R2 b s i m e p w) : R2 b s i m e p w.drew := h
theorem R2.alloc {b : Nat} {s : ByteArray} {i m e p : Int} {w : World} (h : R2 b s i m e p w) (o : Obj) : R2 b s i m e p (w.alloc o) := by
  unfold R2; rw [Below.heap_alloc _ _ _ h.lt]; exact h
theorem R2.below {b : Nat} {s : ByteArray} {i m e p : Int} {w w' : World} (h : R2 b s i m e p w) (k : Below w.heap.size w w') : R2 b s i m e p w' := by
  unfold R2; rw [k.block _ h.lt]; exact h
theorem R2.set1 {b : Nat} {s : ByteArray} {i m e p : Int} {w : World} (h : R2 b s i m e p w) (j : Int) : R2 b s j m e p (w.setCell ⟨b, 1, none⟩ (.int .i64 j)) := by
  have hl := h.lt
  unfold R2 at *; simp [World.setCell, Array.getElem?_modify, h]
theorem R2.set2 {b : Nat} {s : ByteArray} {i m e p : Int} {w : World} (h : R2 b s i m e p w) (j : Int) : R2 b s i j e p (w.setCell ⟨b, 2, none⟩ (.int .i64 j)) := by
  have hl := h.lt
  unfold R2 at *; simp [World.setCell, Array.getElem?_modify, h]
theorem R2.set3 {b : Nat} {s : ByteArray} {i m e p : Int} {w : World} (h : R2 b s i m e p w) (j : Int) : R2 b s i m j p (w.setCell ⟨b, 3, none⟩ (.int .i64 j)) := by
  have hl := h.lt
  unfold R2 at *; simp [World.setCell, Array.getElem?_modify, h]
theorem R2.set4 {b : Nat} {s : ByteArray} {i m e p : Int} {w : World} (h : R2 b s i m e p w) (j : Int) : R2 b s i m e j (w.setCell ⟨b, 4, none⟩ (.int .i64 j)) := by
  have hl := h.lt
  unfold R2 at *; simp [World.setCell, Array.getElem?_modify, h]
theorem R2.mv {b c : Nat} {s : ByteArray} {i m e p : Int} {w w' : World} (h : R2 b s i m e p w) (k : Mv c w w') (hn : b ≠ c) : R2 b s i m e p w' := k.heap h hn

/-- What a method of this reader comes to: a value, or the reader is in its fault; what was there but for the reader is as it was. -/
def RG {α : Type} (r : Except (Nat × Nat) α) (V : α → Ending → World → Prop) (F : Ending → World → Prop) (b : Nat) (s : ByteArray) (w : World) (e : Ending) (w' : World) : Prop :=
  Mv b w w' ∧ (∀ a, r = .ok a → V a e w') ∧ ∀ x, r = .error x → F e w' ∧ x.1 ≠ 0 ∧ ∃ (j : Nat) (m : Int), j ≤ s.size ∧ R2 b s j m x.1 x.2 w'
theorem RG.ok {α : Type} {r : Except (Nat × Nat) α} {V : α → Ending → World → Prop} {F : Ending → World → Prop} {b : Nat} {s : ByteArray} {w w' : World} {e : Ending} {a : α} (hr : r = .ok a) (hm : Mv b w w') (hv : V a e w') : RG r V F b s w e w' :=
  ⟨hm, fun a' h => by rw [hr] at h; injection h with h; subst h; exact hv, fun x h => by rw [hr] at h; cases h⟩
theorem RG.err {α : Type} {r : Except (Nat × Nat) α} {V : α → Ending → World → Prop} {F : Ending → World → Prop} {b : Nat} {s : ByteArray} {w w' : World} {e : Ending} {x : Nat × Nat} {j : Nat} {m : Int} (hr : r = .error x) (hm : Mv b w w') (hf : F e w') (hx : x.1 ≠ 0) (hj : j ≤ s.size) (h : R2 b s j m x.1 x.2 w') : RG r V F b s w e w' :=
  ⟨hm, fun a h => (by rw [hr] at h; cases h), fun y h => by rw [hr] at h; injection h with h; subst h; exact ⟨hf, hx, j, m, hj, h⟩⟩
theorem RG.of_ok {α : Type} {r : Except (Nat × Nat) α} {V : α → Ending → World → Prop} {F : Ending → World → Prop} {b : Nat} {s : ByteArray} {w w' : World} {e : Ending} {a : α} (h : RG r V F b s w e w') (hr : r = .ok a) : V a e w' ∧ Mv b w w' := ⟨h.2.1 a hr, h.1⟩
theorem RG.of_err {α : Type} {r : Except (Nat × Nat) α} {V : α → Ending → World → Prop} {F : Ending → World → Prop} {b : Nat} {s : ByteArray} {w w' : World} {e : Ending} {x : Nat × Nat} (h : RG r V F b s w e w') (hr : r = .error x) : Mv b w w' ∧ F e w' ∧ x.1 ≠ 0 ∧ ∃ (j : Nat) (m : Int), j ≤ s.size ∧ R2 b s j m x.1 x.2 w' := ⟨h.1, h.2.2 x hr⟩
/-- .. a method that returns nothing. -/
def At2 (b : Nat) (s : ByteArray) (m : Int) (j : Nat) (e : Ending) (w' : World) : Prop := e = .returned (.tuple #[]) ∧ R2 b s j m 0 0 w'
def Nul (e : Ending) (_ : World) : Prop := e = .returned (.tuple #[])
/-- .. that returns a text. -/
def Text2 (b : Nat) (s : ByteArray) (m : Int) (a : List UInt8 × Nat) (e : Ending) (w' : World) : Prop := e = .returned (.string ⟨a.1.toArray⟩) ∧ R2 b s a.2 m 0 0 w'
def Str (e : Ending) (_ : World) : Prop := e = .returned (.string ⟨#[]⟩)

theorem fail_calls (s : ByteArray) (i m p x q : Int) (b : Nat) (w : World) (h : R2 b s i m 0 p w) :
    Calls Tryz.prog 79 #[.pointer (some ⟨b, 0, none⟩), .int .i64 x, .int .i64 q] w fun e w' => e = .returned (.tuple #[]) ∧ R2 b s i m x q w' ∧ Mv b w w' := by
  have c3 := h.c3; have c4 := h.c4; have f3 := h.fr 3; have f4 := h.fr 4
  have H := Lib.hid h; clear h
  go_enter Tryz.func79, Tryz.ntmps79
  go_wp2
  go_end0
  exact ⟨rfl, (H.out.set3 _).set4 _, ((Mv.refl b w).set (.inl rfl) _).set (.inl rfl) _⟩
theorem fail_no (s : ByteArray) (i m y p x q : Int) (b : Nat) (w : World) (h : R2 b s i m y p w) (hy : y ≠ 0) :
    Calls Tryz.prog 79 #[.pointer (some ⟨b, 0, none⟩), .int .i64 x, .int .i64 q] w fun e w' => e = .returned (.tuple #[]) ∧ w' = w := by
  have c3 := h.c3
  have hyb : (y == 0) = false := by simpa using hy
  clear h hy
  go_enter Tryz.func79, Tryz.ntmps79
  go_wp2
  go_end0
  exact ⟨rfl, rfl⟩
theorem ok_calls (s : ByteArray) (i m y p : Int) (b : Nat) (w : World) (h : R2 b s i m y p w) :
    Calls Tryz.prog 80 #[.pointer (some ⟨b, 0, none⟩)] w fun e w' => e = .returned (.bool (y == 0)) ∧ w' = w := by
  have c3 := h.c3
  clear h
  go_enter Tryz.func80, Tryz.ntmps80
  go_wp2
  go_ret
  exact ⟨rfl, rfl⟩

theorem next_in (s : ByteArray) (i : Nat) (m y p : Int) (b : Nat) (w : World) (h : R2 b s i m y p w) (hi : i < s.size) (_hs : s.size ≤ maxLen) :
    Calls Tryz.prog 123 #[.pointer (some ⟨b, 0, none⟩)] w fun e w' => e = .returned (.int .u8 s[i].toNat) ∧ ∃ n, w' = w.drewN n := by
  have h0 := h.c0; have h1 := h.c1
  unfold maxLen at _hs
  clear h
  go_enter Tryz.func123, Tryz.ntmps123
  go_wp2
  go_quiet (fail)
  go_wp2
  go_quiet (fail)
  go_wp2
  go_ret
  exact ⟨rfl, _, World.drewN_drewN _ _ _⟩
theorem next_out (s : ByteArray) (i : Nat) (m y p : Int) (b : Nat) (w : World) (h : R2 b s i m y p w) (hi : s.size ≤ i) (_hs : s.size ≤ maxLen) :
    Calls Tryz.prog 123 #[.pointer (some ⟨b, 0, none⟩)] w fun e w' => e = .returned (.int .u8 0) ∧ ∃ n, w' = w.drewN n := by
  have h0 := h.c0; have h1 := h.c1
  unfold maxLen at _hs
  clear h
  go_enter Tryz.func123, Tryz.ntmps123
  go_wp2
  go_quiet (fail)
  go_wp2
  go_ret
  exact ⟨rfl, _, rfl⟩
theorem next_calls (s : ByteArray) (i : Nat) (m y p : Int) (b : Nat) (w : World) (h : R2 b s i m y p w) (hs : s.size ≤ maxLen) :
    Calls Tryz.prog 123 #[.pointer (some ⟨b, 0, none⟩)] w fun e w' => e = .returned (.int .u8 (Cx.peek s.data.toList i).toNat) ∧ ∃ n, w' = w.drewN n := by
  rcases Nat.lt_or_ge i s.size with hi | hi
  · rw [peek_size hi]; exact next_in s i m y p b w h hi hs
  · rw [Cx.peek_end (by simpa using hi)]; exact next_out s i m y p b w h hi hs

theorem digit2_calls (c : UInt8) (w : World) : Calls Tryz.prog 124 #[.int .u8 c.toNat] w fun e w' => e = .returned (.bool (Cx.isDig c)) ∧ w = w' := by
  by_cases h1 : 48 ≤ c.toNat
  · by_cases h2 : c.toNat ≤ 57
    · have hd : Cx.isDig c = true := by
        simp only [Cx.isDig, Bool.and_eq_true, decide_eq_true_eq, UInt8.le_iff_toNat_le]; exact ⟨h1, h2⟩
      rw [hd]
      clear hd
      have hq : decide ((c.toNat : Int) ≤ 57) = true := by simp; omega
      go_enter Tryz.func124, Tryz.ntmps124
      go_wp2
      go_ret
      exact ⟨rfl, rfl⟩
    · have hd : Cx.isDig c = false := by
        simp only [Cx.isDig, Bool.and_eq_false_iff, decide_eq_false_iff_not, UInt8.le_iff_toNat_le]; exact .inr h2
      rw [hd]
      clear hd
      have hq : decide ((c.toNat : Int) ≤ 57) = false := by simp; omega
      go_enter Tryz.func124, Tryz.ntmps124
      go_wp2
      go_ret
      exact ⟨rfl, rfl⟩
  · have hd : Cx.isDig c = false := by
      simp only [Cx.isDig, Bool.and_eq_false_iff, decide_eq_false_iff_not, UInt8.le_iff_toNat_le]; exact .inl h1
    rw [hd]
    clear hd
    go_enter Tryz.func124, Tryz.ntmps124
    go_wp2
    go_ret
    exact ⟨rfl, rfl⟩

set_option maxHeartbeats 1000000 in
theorem blanks2_calls (s : ByteArray) (i : Nat) (m y p : Int) (b : Nat) (w : World) (h : R2 b s i m y p w) (hle : i ≤ s.size) (hs : s.size ≤ maxLen) :
    Calls Tryz.prog 78 #[.pointer (some ⟨b, 0, none⟩)] w fun e w' =>
      e = .returned (.tuple #[]) ∧ R2 b s (Cx.skipB s.data.toList i) m y p w' ∧ Mv b w w' := by
  have hs' := hs
  unfold maxLen at hs
  have H := Lib.hid h; clear h
  go_enter Tryz.func78, Tryz.ntmps78
  go_wp2
  go_loopg [] (s.size - i) (fun q wr => ∃ k : Nat, q = s.size - k ∧ i ≤ k ∧ k ≤ s.size ∧ Cx.skipB s.data.toList k = Cx.skipB s.data.toList i ∧ R2 b s k m y p wr ∧ Mv b w wr)
  case atStart => exact ⟨i, rfl, Nat.le_refl _, hle, rfl, H.out, Mv.refl _ _⟩
  case round =>
    obtain ⟨k, hq, hik, hks, hsk, hrd, hmv⟩ := hrel
    have h0 := hrd.c0; have h1 := hrd.c1; have hf := hrd.fr 1
    have HSK := Lib.hid hsk; have HRD := Lib.hid hrd; have HMV := Lib.hid hmv; have HQ := Lib.hid hq
    clear hsk hrd hmv hq
    rcases Nat.lt_or_ge k s.size with hlt | hge
    · obtain ⟨c, hc⟩ : ∃ c, c = s[k] := ⟨_, rfl⟩
      have hpk : Cx.peek s.data.toList k = c := by rw [hc]; exact peek_size hlt
      have HPK := Lib.hid hpk
      clear hpk
      by_cases hbl : Cx.isBlank c = true
      · have hstep := Cx.skipB_step (s := s.data.toList) (i := k) hlt (by rw [HPK.out]; exact hbl)
        have HST := Lib.hid hstep
        clear hstep
        have hb4 := Cx.isBlank_ne hbl
        clear hbl
        have hsk : (s[k].toNat : Int) = (c.toNat : Int) := by rw [hc]
        clear hc
        rcases hb4 with rfl | rfl | rfl | rfl
        all_goals
          go_wp2
          go_quiet (fail)
          go_wp2
          go_roundg (s.size - (k + 1))
          case measure => have := HQ.out; omega
          case rel => exact ⟨k + 1, rfl, by omega, by omega, by rw [← HST.out]; exact HSK.out, (HRD.out.drewN _).set1 _, (HMV.out.drewN _).set (.inl rfl) _⟩
      · have hbf : Cx.isBlank c = false := by simpa using hbl
        have HB := Lib.hid hbf
        simp only [Cx.isBlank, Bool.or_eq_false_iff, beq_eq_false_iff_ne] at hbf
        obtain ⟨⟨⟨n1, n2⟩, n3⟩, n4⟩ := hbf
        have ne : ∀ k' : UInt8, c ≠ k' → ((s[k].toNat : Int) == (k'.toNat : Int)) = false := fun k' hk => by
          rw [beq_eq_false_iff_ne]; intro e; exact hk (by rw [hc]; exact UInt8.toNat_inj.1 (by omega))
        have e1 : ((s[k].toNat : Int) == 32) = false := ne 32 n1
        have e2 : ((s[k].toNat : Int) == 9) = false := ne 9 n2
        have e3 : ((s[k].toNat : Int) == 10) = false := ne 10 n3
        have e4 : ((s[k].toNat : Int) == 13) = false := ne 13 n4
        clear ne n1 n2 n3 n4 hbl hc
        go_wp2
        go_quiet (fail)
        go_wp2
        go_end0
        have hst : Cx.skipB s.data.toList i = k := by rw [← HSK.out]; exact Cx.skipB_stop (by rw [HPK.out]; exact HB.out)
        rw [hst]
        exact ⟨rfl, HRD.out.drewN _, HMV.out.drewN _⟩
    · have hd : decide (k < s.size) = false := by simp; omega
      go_wp2
      go_quiet (fail)
      go_wp2
      go_end0
      have hst : Cx.skipB s.data.toList i = k := by rw [← HSK.out]; exact Cx.skipB_stop (by rw [Cx.peek_end hge]; rfl)
      rw [hst]
      exact ⟨rfl, HRD.out.drewN _, HMV.out.drewN _⟩

/-- What 'row' does. -/
def RowPost (b : Nat) (s : ByteArray) (i : Nat) (m : Int) (w : World) (e : Ending) (w' : World) : Prop :=
  e = .returned (.tuple #[]) ∧ Mv b w w' ∧ ((Cx.digits s.data.toList i = .ok (Cx.skipD s.data.toList i) ∧ R2 b s (Cx.skipD s.data.toList i) m 0 0 w') ∨ (Cx.digits s.data.toList i = .error (7, i) ∧ R2 b s i m 7 i w'))
theorem row_calls (s : ByteArray) (i : Nat) (m : Int) (b : Nat) (w : World) (h : R2 b s i m 0 0 w) (hle : i ≤ s.size) (hs : s.size ≤ maxLen) :
    Calls Tryz.prog 164 #[.pointer (some ⟨b, 0, none⟩)] w (RowPost b s i m w) := by
  have hs' := hs
  unfold maxLen at hs
  have H := Lib.hid h; clear h
  have h1 := H.out.c1
  go_enter Tryz.func164, Tryz.ntmps164
  go_wp2_with fail
  refine (next_calls s i m 0 0 b _ H.out hs').mono ?_
  rintro e w' ⟨rfl, n, rfl⟩
  go_wp2_with fail
  refine (digit2_calls _ _).mono ?_
  rintro e w' ⟨rfl, rfl⟩
  by_cases hd0 : Cx.isDig (Cx.peek s.data.toList i) = true
  rotate_left
  · have hd' : Cx.isDig (Cx.peek s.data.toList i) = false := by simpa using hd0
    rw [hd']
    have hfin : Cx.digits s.data.toList i = .error (7, i) := by unfold Cx.digits; rw [if_pos (Cx.skipD_stop hd')]
    have HF := Lib.hid hfin
    clear hd' hd0 hfin
    go_wp2_with fail
    refine (fail_calls s i m 0 7 i b _ (H.out.drewN n)).mono ?_
    rintro e w2 ⟨rfl, k1, k2⟩
    have K1 := Lib.hid k1; have K2 := Lib.hid k2
    clear k1 k2
    go_wp2
    go_end0
    exact ⟨rfl, ((Mv.refl b w).drewN n).trans K2.out, .inr ⟨HF.out, K1.out⟩⟩
  rw [hd0]
  have HD0 := Lib.hid hd0
  clear hd0
  go_wp2_with fail
  clear h1
  go_loopg [] (s.size - i) (fun q wr => ∃ k : Nat, q = s.size - k ∧ i ≤ k ∧ k ≤ s.size ∧ Cx.skipD s.data.toList k = Cx.skipD s.data.toList i ∧ R2 b s k m 0 0 wr ∧ Mv b w wr)
  case atStart => exact ⟨i, rfl, Nat.le_refl _, hle, rfl, H.out.drewN _, (Mv.refl _ _).drewN _⟩
  case round =>
    obtain ⟨k, hq, hik, hks, hsk, hrd, hmv⟩ := hrel
    have h1 := hrd.c1; have hf := hrd.fr 1
    have HSK := Lib.hid hsk; have HRD := Lib.hid hrd; have HMV := Lib.hid hmv; have HQ := Lib.hid hq
    clear hsk hrd hmv hq
    by_cases hd : Cx.isDig (Cx.peek s.data.toList k) = true
    · have hlt : k < s.size := Cx.peek_lt (s := s.data.toList) (fun e => by rw [e] at hd; cases hd)
      have HD := Lib.hid hd; clear hd
      go_wp2_with fail
      refine (next_calls s k m 0 0 b _ HRD.out hs').mono ?_
      rintro e w' ⟨rfl, n, rfl⟩
      go_wp2_with fail
      refine (digit2_calls _ _).mono ?_
      rintro e w' ⟨rfl, rfl⟩
      rw [HD.out]
      go_wp2
      go_roundg (s.size - (k + 1))
      case measure => have := HQ.out; omega
      case rel =>
        have hstep := Cx.skipD_step (s := s.data.toList) (i := k) hlt HD.out
        exact ⟨k + 1, rfl, by omega, by omega, by rw [← hstep]; exact HSK.out, (HRD.out.drewN _).set1 _, (HMV.out.drewN _).set (.inl rfl) _⟩
    · have hd' : Cx.isDig (Cx.peek s.data.toList k) = false := by simpa using hd
      have HD := Lib.hid hd'; clear hd hd'
      have hst : Cx.skipD s.data.toList i = k := by rw [← HSK.out]; exact Cx.skipD_stop HD.out
      have HST := Lib.hid hst; clear hst
      go_wp2_with fail
      refine (next_calls s k m 0 0 b _ HRD.out hs').mono ?_
      rintro e w' ⟨rfl, n, rfl⟩
      go_wp2_with fail
      refine (digit2_calls _ _).mono ?_
      rintro e w' ⟨rfl, rfl⟩
      rw [HD.out]
      go_wp2
      go_end0
      have hne : k ≠ i := by
        rintro rfl
        have := HD0.out; rw [HD.out] at this; cases this
      have hfin : Cx.digits s.data.toList i = .ok k := by unfold Cx.digits; rw [HST.out, if_neg hne]
      exact ⟨rfl, HMV.out.drewN _, .inl ⟨by rw [HST.out]; exact hfin, by rw [HST.out]; exact HRD.out.drewN _⟩⟩

set_option maxHeartbeats 1000000 in
theorem word2_calls (s : ByteArray) (i : Nat) (m : Int) (b : Nat) (W : ByteArray) (w : World) (h : R2 b s i m 0 0 w) (hle : i ≤ s.size) (hs : s.size ≤ maxLen) (h0 : (0 : UInt8) ∉ W.data.toList) (hW : W.size ≤ maxLen) :
    Calls Tryz.prog 125 #[.pointer (some ⟨b, 0, none⟩), .string W] w (RG (Cx.word s.data.toList W.data.toList i) (At2 b s m) Nul b s w) := by
  have hs' := hs
  unfold maxLen at hs hW
  have H := Lib.hid h; clear h
  have H0 := Lib.hid h0; clear h0
  go_enter Tryz.func125, Tryz.ntmps125
  go_wp2
  go_loopg [4] W.size (fun q x wr => ∃ k j : Nat, x = .int .i64 k ∧ q = W.size - k ∧ k ≤ W.size ∧ j ≤ s.size ∧ Hid (j = i + k) ∧ Cx.word s.data.toList W.data.toList i = Cx.word s.data.toList (W.data.toList.drop k) j ∧ R2 b s j m 0 0 wr ∧ Mv b w wr)
  case atStart => exact ⟨0, i, rfl, rfl, Nat.zero_le _, hle, Lib.hid rfl, rfl, H.out, Mv.refl _ _⟩
  case round =>
    obtain ⟨k, j, rfl, hq, hk, hik, HJ, hw, hrd, hmv⟩ := hrel
    have g0 := hrd.c0; have g1 := hrd.c1; have gf := hrd.fr 1
    have HW := Lib.hid hw; have HRD := Lib.hid hrd; have HMV := Lib.hid hmv; have HQ := Lib.hid hq
    clear hw hrd hmv hq
    rcases Nat.lt_or_ge k W.size with hlt | hge
    · have hdr : W.data.toList.drop k = W[k] :: W.data.toList.drop (k + 1) := by rw [List.drop_eq_getElem_cons (show k < W.data.toList.length from hlt)]; rfl
      have hne : W[k] ≠ 0 := fun e => H0.out (by rw [← e]; exact List.getElem_mem (show k < W.data.toList.length from hlt))
      have HD := Lib.hid hdr; have HN := Lib.hid hne; clear hdr hne
      by_cases hc : Cx.peek s.data.toList j = W[k]
      · have hlt2 : j < s.size := Cx.peek_lt (s := s.data.toList) (by rw [hc]; exact HN.out)
        have hc2 : W[k] = s[j] := by rw [← hc]; exact peek_size hlt2
        have HC := Lib.hid hc; clear hc
        have hcn : ((s[j].toNat : Int) != (W[k].toNat : Int)) = false := by rw [hc2]; simp
        have hge2 : ¬ ((s.size : Int) ≤ (j : Int)) := by omega
        clear hc2
        go_wp2_with fail
        refine (ok_calls s _ m 0 0 b _ HRD.out).mono ?_
        rintro e w' ⟨rfl, rfl⟩
        go_wp2_with fail
        go_quiet (fail)
        go_wp2
        go_roundg (W.size - (k + 1))
        case measure => have := HQ.out; omega
        case rel =>
          refine ⟨k + 1, j + 1, by go_num, rfl, by omega, by omega, Lib.hid (by have := HJ.out; omega), ?_, ?_, (HMV.out.drewN _).set (.inl rfl) _⟩
          · rw [HW.out, HD.out]
            conv => lhs; unfold Cx.word
            rw [if_pos HC.out]
          · exact (HRD.out.drewN _).set1 _
      · have hfin : Cx.word s.data.toList W.data.toList i = .error (7, j) := by
          rw [HW.out, HD.out]; unfold Cx.word; rw [if_neg hc]
        have HF := Lib.hid hfin
        clear hfin
        rcases Nat.lt_or_ge j s.size with hlt2 | hge2
        · have hcn : ((s[j].toNat : Int) != (W[k].toNat : Int)) = true := by
            rw [bne_iff_ne]; intro e
            exact hc (by rw [peek_size hlt2]; exact UInt8.toNat_inj.1 (by omega))
          have hge2 : ¬ ((s.size : Int) ≤ (j : Int)) := by omega
          clear hc
          go_wp2_with fail
          refine (ok_calls s _ m 0 0 b _ HRD.out).mono ?_
          rintro e w' ⟨rfl, rfl⟩
          go_wp2_with fail
          go_quiet (fail)
          go_wp2_with fail
          refine (fail_calls s _ m 0 7 _ b _ (HRD.out.drewN _)).mono ?_
          rintro e w2 ⟨rfl, k1, k2⟩
          have K1 := Lib.hid k1; have K2 := Lib.hid k2
          clear k1 k2
          go_wp2
          go_end0
          exact RG.err HF.out ((HMV.out.drewN _).trans K2.out) rfl (show (7 : Nat) ≠ 0 by decide) hik K1.out
        · have hge3 : ((s.size : Int) ≤ (j : Int)) := by omega
          clear hc
          go_wp2_with fail
          refine (ok_calls s _ m 0 0 b _ HRD.out).mono ?_
          rintro e w' ⟨rfl, rfl⟩
          go_wp2_with fail
          go_quiet (fail)
          go_wp2_with fail
          refine (fail_calls s _ m 0 7 _ b _ (HRD.out.drewN _)).mono ?_
          rintro e w2 ⟨rfl, k1, k2⟩
          have K1 := Lib.hid k1; have K2 := Lib.hid k2
          clear k1 k2
          go_wp2
          go_end0
          exact RG.err HF.out ((HMV.out.drewN _).trans K2.out) rfl (show (7 : Nat) ≠ 0 by decide) hik K1.out
    · have hkk : k = W.size := by omega
      subst hkk
      have hfin : Cx.word s.data.toList W.data.toList i = .ok j := by
        rw [HW.out, List.drop_of_length_le (by simp)]; rfl
      have HF := Lib.hid hfin
      clear hfin
      go_wp2_with fail
      go_end0
      exact RG.ok HF.out HMV.out ⟨rfl, HRD.out⟩
/-- .. a reader in its fault goes by no word. -/
theorem word2_no (s : ByteArray) (i m y p : Int) (b : Nat) (W : ByteArray) (w : World) (h : R2 b s i m y p w) (hy : y ≠ 0) (hW : W.size ≤ maxLen) :
    Calls Tryz.prog 125 #[.pointer (some ⟨b, 0, none⟩), .string W] w fun e w' => e = .returned (.tuple #[]) ∧ w' = w := by
  unfold maxLen at hW
  have hyb : (y == 0) = false := by simpa using hy
  have H := Lib.hid h; clear h hy
  rcases Nat.eq_zero_or_pos W.size with h0 | h0
  · have h0' : ¬ (0 : Int) < (W.size : Int) := by omega
    go_enter Tryz.func125, Tryz.ntmps125
    go_wp2
    go_loop [4] (fun x => x = .int .i64 0) (fun _ => 0)
    case atStart => rfl
    case round =>
      subst hrel
      go_wp2_with fail
      go_end0
      exact ⟨rfl, rfl⟩
  · have h0' : (0 : Int) < (W.size : Int) := by omega
    go_enter Tryz.func125, Tryz.ntmps125
    go_wp2
    go_loop [4] (fun x => x = .int .i64 0) (fun _ => 0)
    case atStart => rfl
    case round =>
      subst hrel
      go_wp2_with fail
      refine (ok_calls s _ m y p b _ H.out).mono ?_
      rintro e w' ⟨rfl, rfl⟩
      rw [hyb]
      go_wp2_with fail
      go_end0
      exact ⟨rfl, rfl⟩
end Go.Proofs.YtejlddimokmgjaaGreatDoor
