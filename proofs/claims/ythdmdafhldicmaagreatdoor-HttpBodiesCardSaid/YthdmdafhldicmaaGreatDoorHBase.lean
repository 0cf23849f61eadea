/- WORLDS: what a call leaves as it was; a reader of package http in memory. No walk. -/
import Derived.Test.YthdmdafhldicmaaGreatDoorRows
import Derived.WalkKit
import Derived.WalkSpells
import Derived.WalkLawsBesides
import Derived.StillTactics
import Derived.Deep.QuietTactic
import Derived.BigQuiet
import Derived.Outline
import Derived.Lib.Hide
import Derived.Lib.Bytealg
import Derived.Maps.AppendAt
namespace Go.Proofs.YthdmdafhldicmaaGreatDoor
open Go.RowKit

/-- Behind a call all blocks that were there are as they were, but for one. -/
def Mv (b : Nat) (w w' : World) : Prop := w.grownBy w' (some b)
theorem Mv.refl (b : Nat) (w : World) : Mv b w w := ⟨rfl, rfl, rfl, Nat.le_refl _, fun _ _ _ => rfl⟩
theorem Mv.trans {b : Nat} {w w' w'' : World} (h : Mv b w w') (k : Mv b w' w'') : Mv b w w'' :=
  ⟨k.os.trans h.os, k.tape.trans h.tape, k.output.trans h.output, Nat.le_trans h.size k.size, fun i hi hn => (k.block i (Nat.lt_of_lt_of_le hi h.size) hn).trans (h.block i hi hn)⟩
theorem Mv.drewN {b : Nat} {w w' : World} (h : Mv b w w') (n : Nat) : Mv b w (w'.drewN n) := ⟨h.os, h.tape, h.output, h.size, h.block⟩
theorem Mv.drew {b : Nat} {w w' : World} (h : Mv b w w') : Mv b w w'.drew := ⟨h.os, h.tape, h.output, h.size, h.block⟩
theorem Mv.alloc {b : Nat} {w w' : World} (h : Mv b w w') (o : Obj) : Mv b w (w'.alloc o) :=
  h.trans ⟨rfl, rfl, rfl, by simp, fun i hi _ => Below.heap_alloc _ _ _ hi⟩
theorem Mv.set {b : Nat} {w w' : World} (h : Mv b w w') {a : Addr} (ha : a.block = b ∨ w.heap.size ≤ a.block) (u : Value) : Mv b w (w'.setCell a u) :=
  ⟨h.os, h.tape, h.output, by have := h.size; simp [World.setCell]; exact this, fun i hi hn => by
    rw [Below.heap_setCell _ _ _ _ (by rintro rfl; rcases ha with h | h; exact hn (by rw [h]); omega)]; exact h.block i hi hn⟩
theorem Mv.below {b : Nat} {w w' w'' : World} (h : Mv b w w') (k : Below w'.heap.size w' w'') : Mv b w w'' :=
  h.trans ⟨k.os, k.tape, k.output, k.size, fun i hi _ => k.block i hi⟩
/-- A call that moves one block of the caller's own leaves what was there before the caller began. -/
theorem Mv.to_below {b B : Nat} {w w' w'' : World} (h : Below B w w') (k : Mv b w' w'') (hb : B ≤ b) (hB : B ≤ w'.heap.size) : Below B w w'' :=
  h.trans ⟨k.os, k.tape, k.output, k.size, fun i hi => k.block i (by omega) (by simp; omega)⟩
theorem Mv.heap {b : Nat} {w w' : World} (h : Mv b w w') {k : Nat} {o : Obj} (hk : w.heap[k]? = some o) (hn : k ≠ b) : w'.heap[k]? = some o := by
  rw [h.block k ?_ (by simpa using hn)]
  · exact hk
  · rcases Nat.lt_or_ge k w.heap.size with g | g
    · exact g
    · rw [Array.getElem?_eq_none g] at hk; cases hk
theorem Mv.cell {b : Nat} {w w' : World} (h : Mv b w w') {a : Addr} {v : Value} (hk : w.cell? a = some v) (hn : a.block ≠ b) : w'.cell? a = some v :=
  (World.cell?_of_block (h.block a.block (World.block_lt_of_cell? w a hk) (by simpa using hn))).trans hk

/-- A reader that lies at a block: its text, its place. -/
def Hr (b : Nat) (s : ByteArray) (i : Int) (w : World) : Prop := w.heap[b]? = some (.cells #[.string s, .int .i64 i] 47 (0, 0))
theorem Hr.c0 {b : Nat} {s : ByteArray} {i : Int} {w : World} (h : Hr b s i w) : w.cell? ⟨b, 0, none⟩ = some (.string s) := by
  unfold Hr at h; simp [World.cell?, h]
theorem Hr.c1 {b : Nat} {s : ByteArray} {i : Int} {w : World} (h : Hr b s i w) : w.cell? ⟨b, 1, none⟩ = some (.int .i64 i) := by
  unfold Hr at h; simp [World.cell?, h]
theorem Hr.fr {b : Nat} {s : ByteArray} {i : Int} {w : World} (h : Hr b s i w) (o : Nat) : w.frozen? ⟨b, o, none⟩ = false := by
  unfold Hr at h; simp [World.frozen?, h]
theorem Hr.lt {b : Nat} {s : ByteArray} {i : Int} {w : World} (h : Hr b s i w) : b < w.heap.size := by
  rcases Nat.lt_or_ge b w.heap.size with g | g
  · exact g
  · unfold Hr at h; rw [Array.getElem?_eq_none g] at h; cases h
theorem Hr.drewN {b : Nat} {s : ByteArray} {i : Int} {w : World} (h : Hr b s i w) (n : Nat) : Hr b s i (w.drewN n) := h
theorem Hr.drew {b : Nat} {s : ByteArray} {i : Int} {w : World} (h : Hr b s i w) : Hr b s i w.drew := h
theorem Hr.alloc {b : Nat} {s : ByteArray} {i : Int} {w : World} (h : Hr b s i w) (o : Obj) : Hr b s i (w.alloc o) := by
  unfold Hr; rw [Below.heap_alloc _ _ _ h.lt]; exact h
theorem Hr.below {b : Nat} {s : ByteArray} {i : Int} {w w' : World} (h : Hr b s i w) (k : Below w.heap.size w w') : Hr b s i w' := by
  unfold Hr; rw [k.block _ h.lt]; exact h
theorem Hr.set1 {b : Nat} {s : ByteArray} {i : Int} {w : World} (h : Hr b s i w) (j : Int) : Hr b s j (w.setCell ⟨b, 1, none⟩ (.int .i64 j)) := by
  have hl := h.lt
  unfold Hr at *; simp [World.setCell, Array.getElem?_modify, h]
theorem Hr.other {b : Nat} {s : ByteArray} {i : Int} {w : World} (h : Hr b s i w) {a : Addr} (ha : a.block ≠ b) (u : Value) : Hr b s i (w.setCell a u) := by
  unfold Hr; rw [Below.heap_setCell _ _ _ _ (by omega)]; exact h
theorem Hr.mv {b c : Nat} {s : ByteArray} {i : Int} {w w' : World} (h : Hr b s i w) (k : Mv c w w') (hn : b ≠ c) : Hr b s i w' := k.heap h hn

/-- A part of a text, as a list. -/
theorem extract_list (s : ByteArray) (i j : Nat) : s.extract i j = ⟨((s.data.toList.drop i).take (j - i)).toArray⟩ := by
  apply ByteArray.ext
  rw [ByteArray.data_extract]
  apply Array.toList_inj.1
  simp [List.extract]
theorem ret_int {k : IntKind} {a b : Int} (h : a = b) : Ending.returned (.int k a) = .returned (.int k b) := by rw [h]
theorem ret_str {s t : ByteArray} (h : s = t) : Ending.returned (.string s) = .returned (.string t) := by rw [h]

theorem app_bytes2 (a b : List UInt8) : ((⟨a.toArray⟩ : ByteArray) ++ ⟨b.toArray⟩) = ⟨(a ++ b).toArray⟩ := by
  apply ByteArray.ext; simp
theorem below_dN {B : Nat} {w w' : World} (h : Below B w w') (n : Nat) : Below B w (w'.drewN n) := ⟨h.os, h.tape, h.output, h.size, h.block⟩
theorem heap_lt {w : World} {k : Nat} {o : Obj} (h : w.heap[k]? = some o) : k < w.heap.size := by
  rcases Nat.lt_or_ge k w.heap.size with g | g
  · exact g
  · rw [Array.getElem?_eq_none g] at h; cases h
theorem u8ne {c k : UInt8} (h : c ≠ k) : ((c.toNat : Int) == (k.toNat : Int)) = false := by
  rw [beq_eq_false_iff_ne]; intro e; exact h (UInt8.toNat_inj.1 (by omega))
theorem size_list (l : List UInt8) : (⟨l.toArray⟩ : ByteArray).size = l.length := by simp [ByteArray.size]
theorem get_list {l : List UInt8} {i : Nat} (h : i < l.length) : (⟨l.toArray⟩ : ByteArray)[i]'(by rw [size_list]; exact h) = l[i] := rfl
/-- Where a byte stands first in a list: the library's word, under a name that a walk does not open. -/
def ix (l : List UInt8) (c : UInt8) : Int := Lib.indexByte l c
theorem ix_neg {l : List UInt8} {c : UInt8} (h : c ∉ l) : ix l c = -1 := by
  unfold ix
  induction l with
  | nil => rfl
  | cons a l ih =>
    simp only [List.mem_cons, not_or] at h
    have := ih h.2
    simp only [Lib.indexByte]
    rw [if_neg (by simpa using Ne.symm h.1), this]; rfl
theorem ix_pos {l : List UInt8} {c : UInt8} (h : c ∈ l) : 0 ≤ ix l c ∧ ix l c < l.length ∧ l[(ix l c).toNat]? = some c := by
  unfold ix
  induction l with
  | nil => cases h
  | cons a l ih =>
    simp only [Lib.indexByte]
    by_cases hc : a = c
    · rw [if_pos (by simpa using hc)]; simp [hc]
    · rw [if_neg (by simpa using hc)]
      have := ih ((List.mem_cons.1 h).resolve_left (Ne.symm hc))
      rw [if_neg (by simp; omega)]
      refine ⟨by omega, by simp; omega, ?_⟩
      rw [show (Lib.indexByte l c + 1).toNat = (Lib.indexByte l c).toNat + 1 by omega]
      simpa using this.2.2
end Go.Proofs.YthdmdafhldicmaaGreatDoor
