/- WORLDS: what a call leaves as it was; a reader in memory. No walk. -/
import Derived.Test.YtbdmepilmoomeaaGreatDoorRows
import Derived.WalkKit
import Derived.WalkSpells
import Derived.WalkLawsBesides
import Derived.StillTactics
import Derived.Deep.QuietTactic
import Derived.BigQuiet
import Derived.Outline
import Derived.Lib.Hide
import Derived.Lib.Bytealg
import Derived.Maps.AppendAt
namespace Go.Proofs.YtbdmepilmoomeaaGreatDoor
open Go.RowKit

/-- Behind a call all blocks that were there are as they were, but for one. -/
def Mv (b : Nat) (w w' : World) : Prop := w.grownBy w' (some b)
theorem Mv.refl (b : Nat) (w : World) : Mv b w w := ⟨rfl, rfl, rfl, Nat.le_refl _, fun _ _ _ => rfl⟩
theorem Mv.trans {b : Nat} {w w' w'' : World} (h : Mv b w w') (k : Mv b w' w'') : Mv b w w'' :=
  ⟨k.os.trans h.os, k.tape.trans h.tape, k.output.trans h.output, Nat.le_trans h.size k.size, fun i hi hn => (k.block i (Nat.lt_of_lt_of_le hi h.size) hn).trans (h.block i hi hn)⟩
theorem Mv.drewN {b : Nat} {w w' : World} (h : Mv b w w') (n : Nat) : Mv b w (w'.drewN n) := ⟨h.os, h.tape, h.output, h.size, h.block⟩
theorem Mv.drew {b : Nat} {w w' : World} (h : Mv b w w') : Mv b w w'.drew := ⟨h.os, h.tape, h.output, h.size, h.block⟩
theorem Mv.alloc {b : Nat} {w w' : World} (h : Mv b w w') (o : Obj) : Mv b w (w'.alloc o) :=
  h.trans ⟨rfl, rfl, rfl, by simp, fun i hi _ => Below.heap_alloc _ _ _ hi⟩
theorem Mv.set {b : Nat} {w w' : World} (h : Mv b w w') {a : Addr} (ha : a.block = b ∨ w.heap.size ≤ a.block) (u : Value) : Mv b w (w'.setCell a u) :=
  ⟨h.os, h.tape, h.output, by have := h.size; simp [World.setCell]; exact this, fun i hi hn => by
    rw [Below.heap_setCell _ _ _ _ (by rintro rfl; rcases ha with h | h; exact hn (by rw [h]); omega)]; exact h.block i hi hn⟩
theorem Mv.below {b : Nat} {w w' w'' : World} (h : Mv b w w') (k : Below w'.heap.size w' w'') : Mv b w w'' :=
  h.trans ⟨k.os, k.tape, k.output, k.size, fun i hi _ => k.block i hi⟩
/-- A call that moves one block of the caller's own leaves what was there before the caller began. -/
theorem Mv.to_below {b B : Nat} {w w' w'' : World} (h : Below B w w') (k : Mv b w' w'') (hb : B ≤ b) (hB : B ≤ w'.heap.size) : Below B w w'' :=
  h.trans ⟨k.os, k.tape, k.output, k.size, fun i hi => k.block i (by omega) (by simp; omega)⟩
theorem Mv.heap {b : Nat} {w w' : World} (h : Mv b w w') {k : Nat} {o : Obj} (hk : w.heap[k]? = some o) (hn : k ≠ b) : w'.heap[k]? = some o := by
  rw [h.block k ?_ (by simpa using hn)]
  · exact hk
  · rcases Nat.lt_or_ge k w.heap.size with g | g
    · exact g
    · rw [Array.getElem?_eq_none g] at hk; cases hk
theorem Mv.cell {b : Nat} {w w' : World} (h : Mv b w w') {a : Addr} {v : Value} (hk : w.cell? a = some v) (hn : a.block ≠ b) : w'.cell? a = some v :=
  (World.cell?_of_block (h.block a.block (World.block_lt_of_cell? w a hk) (by simpa using hn))).trans hk

/-- A reader that lies at a block: its text, its place, how many values began. -/
def Rd (b : Nat) (s : ByteArray) (i m : Int) (w : World) : Prop := w.heap[b]? = some (.cells #[.string s, .int .i64 i, .int .i64 m] 48 (0, 0))
theorem Rd.c0 {b : Nat} {s : ByteArray} {i m : Int} {w : World} (h : Rd b s i m w) : w.cell? ⟨b, 0, none⟩ = some (.string s) := by
  unfold Rd at h; simp [World.cell?, h]
theorem Rd.c1 {b : Nat} {s : ByteArray} {i m : Int} {w : World} (h : Rd b s i m w) : w.cell? ⟨b, 1, none⟩ = some (.int .i64 i) := by
  unfold Rd at h; simp [World.cell?, h]
theorem Rd.c2 {b : Nat} {s : ByteArray} {i m : Int} {w : World} (h : Rd b s i m w) : w.cell? ⟨b, 2, none⟩ = some (.int .i64 m) := by
  unfold Rd at h; simp [World.cell?, h]
theorem Rd.fr {b : Nat} {s : ByteArray} {i m : Int} {w : World} (h : Rd b s i m w) (o : Nat) : w.frozen? ⟨b, o, none⟩ = false := by
  unfold Rd at h; simp [World.frozen?, h]
theorem Rd.lt {b : Nat} {s : ByteArray} {i m : Int} {w : World} (h : Rd b s i m w) : b < w.heap.size := by
  rcases Nat.lt_or_ge b w.heap.size with g | g
  · exact g
  · unfold Rd at h; rw [Array.getElem?_eq_none g] at h; cases h
theorem Rd.drewN {b : Nat} {s : ByteArray} {i m : Int} {w : World} (h : Rd b s i m w) (n : Nat) : Rd b s i m (w.drewN n) := h
theorem Rd.drew {b : Nat} {s : ByteArray} {i m : Int} {w : World} (h : Rd b s i m w) : Rd b s i m w.drew := h
theorem Rd.alloc {b : Nat} {s : ByteArray} {i m : Int} {w : World} (h : Rd b s i m w) (o : Obj) : Rd b s i m (w.alloc o) := by
  unfold Rd; rw [Below.heap_alloc _ _ _ h.lt]; exact h
theorem Rd.below {b : Nat} {s : ByteArray} {i m : Int} {w w' : World} (h : Rd b s i m w) (k : Below w.heap.size w w') : Rd b s i m w' := by
  unfold Rd; rw [k.block _ h.lt]; exact h
theorem Rd.set1 {b : Nat} {s : ByteArray} {i m : Int} {w : World} (h : Rd b s i m w) (j : Int) : Rd b s j m (w.setCell ⟨b, 1, none⟩ (.int .i64 j)) := by
  have hl := h.lt
  unfold Rd at *; simp [World.setCell, Array.getElem?_modify, h]
theorem Rd.set2 {b : Nat} {s : ByteArray} {i m : Int} {w : World} (h : Rd b s i m w) (j : Int) : Rd b s i j (w.setCell ⟨b, 2, none⟩ (.int .i64 j)) := by
  have hl := h.lt
  unfold Rd at *; simp [World.setCell, Array.getElem?_modify, h]
theorem Rd.other {b : Nat} {s : ByteArray} {i m : Int} {w : World} (h : Rd b s i m w) {a : Addr} (ha : a.block ≠ b) (u : Value) : Rd b s i m (w.setCell a u) := by
  unfold Rd; rw [Below.heap_setCell _ _ _ _ (by omega)]; exact h
theorem Rd.mv {b c : Nat} {s : ByteArray} {i m : Int} {w w' : World} (h : Rd b s i m w) (k : Mv c w w') (hn : b ≠ c) : Rd b s i m w' := k.heap h hn

/-- A fault that is panicked with. -/
def fault (e : Int) (p : Int) : List PanicEntry := [{ v := .iface 44 (.agg #[.int .i64 e, .int .i64 p]), recovered := false }]

/-- A part of a text, as a list. -/
theorem extract_list (s : ByteArray) (i j : Nat) : s.extract i j = ⟨((s.data.toList.drop i).take (j - i)).toArray⟩ := by
  apply ByteArray.ext
  rw [ByteArray.data_extract]
  apply Array.toList_inj.1
  simp [List.extract]
theorem ret_int {k : IntKind} {a b : Int} (h : a = b) : Ending.returned (.int k a) = .returned (.int k b) := by rw [h]
theorem ret_str {s t : ByteArray} (h : s = t) : Ending.returned (.string s) = .returned (.string t) := by rw [h]

/-- What a method of the reader comes to: a value, or a fault that is panicked with; what was there but for the reader is as it was. -/
def Gives {α : Type} (r : Except (Nat × Nat) α) (V : α → Ending → World → Prop) (b : Nat) (w : World) (e : Ending) (w' : World) : Prop :=
  Mv b w w' ∧ (∀ a, r = .ok a → V a e w') ∧ ∀ x, r = .error x → e = .panicked (fault (x.1 : Nat) (x.2 : Nat))
theorem Gives.ok {α : Type} {r : Except (Nat × Nat) α} {V : α → Ending → World → Prop} {b : Nat} {w w' : World} {e : Ending} {a : α} (hr : r = .ok a) (hm : Mv b w w') (hv : V a e w') : Gives r V b w e w' :=
  ⟨hm, fun a' h => by rw [hr] at h; injection h with h; subst h; exact hv, fun x h => by rw [hr] at h; cases h⟩
theorem Gives.err {α : Type} {r : Except (Nat × Nat) α} {V : α → Ending → World → Prop} {b : Nat} {w w' : World} {x : Nat × Nat} (hr : r = .error x) (hm : Mv b w w') : Gives r V b w (.panicked (fault x.1 x.2)) w' :=
  ⟨hm, fun a' h => (by rw [hr] at h; cases h), fun y h => by rw [hr] at h; injection h with h; subst h; rfl⟩
theorem Gives.of_ok {α : Type} {r : Except (Nat × Nat) α} {V : α → Ending → World → Prop} {b : Nat} {w w' : World} {e : Ending} {a : α} (h : Gives r V b w e w') (hr : r = .ok a) : V a e w' ∧ Mv b w w' := ⟨h.2.1 a hr, h.1⟩
theorem Gives.of_err {α : Type} {r : Except (Nat × Nat) α} {V : α → Ending → World → Prop} {b : Nat} {w w' : World} {e : Ending} {x : Nat × Nat} (h : Gives r V b w e w') (hr : r = .error x) : e = .panicked (fault x.1 x.2) ∧ Mv b w w' := ⟨h.2.2 x hr, h.1⟩
/-- .. a method that returns nothing, and leaves the reader at a place. -/
def At (b : Nat) (s : ByteArray) (m : Int) (j : Nat) (e : Ending) (w' : World) : Prop := e = .returned (.tuple #[]) ∧ Rd b s j m w'
/-- .. that returns a text. -/
def TextAt (b : Nat) (s : ByteArray) (m : Int) (a : List UInt8 × Nat) (e : Ending) (w' : World) : Prop := e = .returned (.string ⟨a.1.toArray⟩) ∧ Rd b s a.2 m w'

/-- Where a byte stands first in a list: the library's word, under a name that a walk does not open. -/
def ix (l : List UInt8) (c : UInt8) : Int := Lib.indexByte l c
theorem ix_neg {l : List UInt8} {c : UInt8} (h : c ∉ l) : ix l c = -1 := by
  unfold ix
  induction l with
  | nil => rfl
  | cons a l ih =>
    simp only [List.mem_cons, not_or] at h
    have := ih h.2
    simp only [Lib.indexByte]
    rw [if_neg (by simpa using Ne.symm h.1), this]; rfl
theorem ix_pos {l : List UInt8} {c : UInt8} (h : c ∈ l) : 0 ≤ ix l c ∧ ix l c < l.length ∧ l[(ix l c).toNat]? = some c := by
  unfold ix
  induction l with
  | nil => cases h
  | cons a l ih =>
    simp only [Lib.indexByte]
    by_cases hc : a = c
    · rw [if_pos (by simpa using hc)]; simp [hc]
    · rw [if_neg (by simpa using hc)]
      have := ih ((List.mem_cons.1 h).resolve_left (Ne.symm hc))
      rw [if_neg (by simp; omega)]
      refine ⟨by omega, by simp; omega, ?_⟩
      rw [show (Lib.indexByte l c + 1).toNat = (Lib.indexByte l c).toNat + 1 by omega]
      simpa using this.2.2
end Go.Proofs.YtbdmepilmoomeaaGreatDoor
