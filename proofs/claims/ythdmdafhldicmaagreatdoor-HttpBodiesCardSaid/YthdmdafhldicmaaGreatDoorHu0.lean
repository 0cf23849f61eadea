/- A REQUEST as a value and in memory. No walk. -/
import Derived.Test.YthdmdafhldicmaaGreatDoorHt
import Derived.Test.YthdmdafhldicmaaGreatDoorHi
import Derived.Test.YthdmdafhldicmaaGreatDoorHg
import Derived.Test.YthdmdafhldicmaaGreatDoorHxReq
namespace Go.Proofs.YthdmdafhldicmaaGreatDoor
open Go.RowKit Go.Maps Go.WideMaps

/-- A request as a value. -/
def qv (m p bd : Hx.Bytes) (c : Bool) : Value := .agg #[.string ⟨m.toArray⟩, .string ⟨p.toArray⟩, .string ⟨bd.toArray⟩, .bool c]
/-- A request in memory. -/
def QAt (g : Nat) (m p bd : Hx.Bytes) (c : Bool) (w : World) : Prop := w.heap[g]? = some (.cells #[.string ⟨m.toArray⟩, .string ⟨p.toArray⟩, .string ⟨bd.toArray⟩, .bool c] 24 (0, 0))
theorem QAt.cells {g : Nat} {m p bd : Hx.Bytes} {c : Bool} {w : World} (h : QAt g m p bd c w) :
    w.cell? ⟨g, 0, none⟩ = some (.string ⟨m.toArray⟩) ∧ w.cell? ⟨g, 1, none⟩ = some (.string ⟨p.toArray⟩) ∧ w.cell? ⟨g, 2, none⟩ = some (.string ⟨bd.toArray⟩) ∧ w.cell? ⟨g, 3, none⟩ = some (.bool c) ∧ ∀ o, w.frozen? ⟨g, o, none⟩ = false := cells4 h
theorem QAt.mv {g b : Nat} {m p bd : Hx.Bytes} {c : Bool} {w w' : World} (h : QAt g m p bd c w) (k : Mv b w w') (hn : g ≠ b) : QAt g m p bd c w' := k.heap h hn
theorem QAt.below {g : Nat} {m p bd : Hx.Bytes} {c : Bool} {w w' : World} (h : QAt g m p bd c w) (k : Below w.heap.size w w') : QAt g m p bd c w' := by
  unfold QAt; rw [k.block _ (heap_lt h)]; exact h
theorem QAt.close {g : Nat} {m p bd : Hx.Bytes} {c : Bool} {w : World} (h : QAt g m p bd c w) (c' : Bool) : QAt g m p bd c' (w.setCell ⟨g, 3, none⟩ (.bool c')) := by
  unfold QAt at *; simp [World.setCell, Array.getElem?_modify, h]
theorem QAt.body {g : Nat} {m p bd : Hx.Bytes} {c : Bool} {w : World} (h : QAt g m p bd c w) (bd' : Hx.Bytes) : QAt g m p bd' c (w.setCell ⟨g, 2, none⟩ (.string ⟨bd'.toArray⟩)) := by
  unfold QAt at *; simp [World.setCell, Array.getElem?_modify, h]
theorem QAt.put {g : Nat} {m p bd : Hx.Bytes} {c : Bool} {w : World} (h : QAt g m p bd c w) (m' p' bd' : Hx.Bytes) (c' : Bool) : QAt g m' p' bd' c' ((((w.setCell ⟨g, 0, none⟩ (.string ⟨m'.toArray⟩)).setCell ⟨g, 1, none⟩ (.string ⟨p'.toArray⟩)).setCell ⟨g, 2, none⟩ (.string ⟨bd'.toArray⟩)).setCell ⟨g, 3, none⟩ (.bool c')) := put4_heap h
theorem QAt.new (w : World) : QAt w.heap.size [] [] [] false (w.alloc (.cells #[.string ⟨#[]⟩, .string ⟨#[]⟩, .string ⟨#[]⟩, .bool false] 24)) := heap_alloc_new w _
theorem QAt.other {g : Nat} {m p bd : Hx.Bytes} {c : Bool} {w : World} (h : QAt g m p bd c w) {a : Addr} (ha : a.block ≠ g) (u : Value) : QAt g m p bd c (w.setCell a u) := by
  unfold QAt; rw [Below.heap_setCell _ _ _ _ (by omega)]; exact h
theorem Mv.put4 {b g : Nat} {w w' : World} (h : Mv b w w') (hg : w.heap.size ≤ g) (x0 x1 x2 x3 : Value) : Mv b w ((((w'.setCell ⟨g, 0, none⟩ x0).setCell ⟨g, 1, none⟩ x1).setCell ⟨g, 2, none⟩ x2).setCell ⟨g, 3, none⟩ x3) :=
  (((h.set (a := ⟨g, 0, none⟩) (.inr hg) x0).set (a := ⟨g, 1, none⟩) (.inr hg) x1).set (a := ⟨g, 2, none⟩) (.inr hg) x2).set (a := ⟨g, 3, none⟩) (.inr hg) x3
theorem Hr.put4 {b g : Nat} {s : ByteArray} {i : Int} {w : World} (h : Hr b s i w) (hg : g ≠ b) (x0 x1 x2 x3 : Value) : Hr b s i ((((w.setCell ⟨g, 0, none⟩ x0).setCell ⟨g, 1, none⟩ x1).setCell ⟨g, 2, none⟩ x2).setCell ⟨g, 3, none⟩ x3) :=
  (((h.other (a := ⟨g, 0, none⟩) hg x0).other (a := ⟨g, 1, none⟩) hg x1).other (a := ⟨g, 2, none⟩) hg x2).other (a := ⟨g, 3, none⟩) hg x3

/-- What 'request' comes to. -/
def ReqPost (b : Nat) (s : ByteArray) (r : Hx.Q × Nat × Nat) (w : World) (e : Ending) (w' : World) : Prop :=
  Mv b w w' ∧ ∃ (m p bd : Hx.Bytes) (c : Bool), e = .returned (.tuple #[qv m p bd c, .int .i64 r.2.2]) ∧ (r.2.2 = 200 → r.1 = ⟨m, p, bd, c⟩ ∧ Hr b s r.2.1 w')

theorem read_bad {s : Hx.Bytes} (h : (Hx.read s).2.2 ≠ 200) : Hx.read s = (Hx.Q.nil, 0, (Hx.read s).2.2) := by
  revert h
  unfold Hx.read
  obtain ⟨l, e, i⟩ := Hx.topN s (s.length + 1) 0
  simp only
  split
  · intro _; rfl
  · cases Hx.first l with
    | none => intro _; rfl
    | some mp =>
      obtain ⟨m, p⟩ := mp
      simp only
      obtain ⟨fo, e2, j⟩ := Hx.fields s i 2000
      cases fo with
      | none => intro _; rfl
      | some f =>
        simp only
        obtain ⟨no, e3⟩ := Hx.length f
        cases no with
        | none =>
          simp only
          split
          · intro h; exact absurd rfl h
          · intro _; rfl
        | some n =>
          simp only
          split
          · intro _; rfl
          · split
            · intro _; rfl
            · intro h; exact absurd rfl h

/-- What 'Read' comes to. -/
def ReadPost (r : Hx.Q × Nat × Nat) (w : World) (e : Ending) (w' : World) : Prop :=
  e = .returned (.tuple #[qv r.1.method r.1.path r.1.body r.1.close, .int .i64 r.2.1, .int .i64 r.2.2]) ∧ Below w.heap.size w w'

theorem reader_new (w : World) (s : ByteArray) : Hr w.heap.size s 0 (w.alloc (.cells #[.string s, .int .i64 0] 47)) := heap_alloc_new w _

end Go.Proofs.YthdmdafhldicmaaGreatDoor
