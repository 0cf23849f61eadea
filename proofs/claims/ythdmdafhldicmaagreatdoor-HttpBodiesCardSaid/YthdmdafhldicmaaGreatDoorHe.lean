/- THE FIELDS OF A HEAD in memory. No walk. -/
import Derived.Test.YthdmdafhldicmaaGreatDoorHc
import Derived.Test.YthdmdafhldicmaaGreatDoorHd
import Derived.Maps.Own
import Derived.Maps.OwnOps
import Derived.Maps.Views
import Derived.Deep.AppendLies
namespace Go.Proofs.YthdmdafhldicmaaGreatDoor
open Go.RowKit Go.Maps Go.WideMaps

theorem lawS : Keyed Tryz.prog 9 := string_keyed Tryz.underlying9
theorem zeroI (w : World) : (zeroValue 3).run Tryz.prog w = .ok (.int .i64 0) w := by kernel_rfl
theorem infoS : (Tryz.prog.info? 9).map (fun i => (i.zero, i.size, i.bytes)) = some (some (.string ⟨#[]⟩), 1, 16) := by kernel_rfl

def cnt (ns : List Hx.Bytes) (n : Hx.Bytes) : Nat := (ns.filter fun m => decide (m = n)).length
theorem cnt_le (ns : List Hx.Bytes) (n : Hx.Bytes) : cnt ns n ≤ ns.length := List.length_filter_le _ _
theorem cnt_snoc (ns : List Hx.Bytes) (m n : Hx.Bytes) : cnt (ns ++ [m]) n = cnt ns n + (if m = n then 1 else 0) := by
  unfold cnt
  rw [List.filter_append, List.length_append]
  by_cases h : m = n <;> simp [h]

abbrev i64 (n : Int) : DataW Unit := .lit (.int .i64 n)
/-- A map in memory that holds how often each name is in a list. -/
def MapAt (mb : Nat) (ns : List Hx.Bytes) (w : World) : Prop :=
  ∃ D : DataW Unit, w.ownsMap Tryz.prog 9 (plainElem Tryz.prog 3) mb ns.length D ∧ IsMap D ∧ ∀ n : Hx.Bytes, D.atKey (.string n) (i64 0) = i64 (cnt ns n)
theorem keyS {n : Hx.Bytes} (h : n.length ≤ 1000000000) : keyOf Tryz.prog 9 (.string ⟨n.toArray⟩) = some (.string n) := by
  have := keyOf_string_mk (P := Tryz.prog) Tryz.underlying9 (s := ⟨n.toArray⟩) (by rw [size_list]; unfold maxLen; omega)
  simpa using this
theorem MapAt.grown {mb : Nat} {ns : List Hx.Bytes} {w w' : World} {row : Option Nat} (h : MapAt mb ns w) (k : w.grownBy w' row) (hn : some mb ≠ row) : MapAt mb ns w' := by
  obtain ⟨D, h1, h2, h3⟩ := h
  exact ⟨D, h1.kept k hn, h2, h3⟩
theorem MapAt.put {mb : Nat} {ns : List Hx.Bytes} {n : Hx.Bytes} {D : DataW Unit} {w' : World} (h2 : IsMap D) (h3 : ∀ n : Hx.Bytes, D.atKey (.string n) (i64 0) = i64 (cnt ns n)) (hown : w'.ownsMap Tryz.prog 9 (plainElem Tryz.prog 3) mb (ns.length + 1) (D.put (.string n) (i64 ((cnt ns n : Int) + 1)))) : MapAt mb (ns ++ [n]) w' := by
  refine ⟨_, by rw [List.length_append, List.length_singleton]; exact hown, h2.put _ _, fun m => ?_⟩
  rw [cnt_snoc]
  by_cases h : n = m
  · subst h
    rw [atKey_put_same h2 (by trivial), if_pos rfl]
    rfl
  · rw [atKey_put_other (by intro e; injection e with e; exact h e.symm), if_neg h, h3]
    rfl

/-- The fields of a head, in memory from a block on: the map, the box, the two rows. -/
structure FAt (B : Nat) (vn vv : Value) (f : Hx.F) (w : World) : Prop where
  box : w.heap[B + 1]? = some (.cells #[.map (some B), vn, vv, .bool f.close] 77 (0, 0))
  map : MapAt B f.names w
  own1 : w.ownsRow (B + 2) 9 1 vn f.names.length (f.names.map strV)
  own2 : w.ownsRow (B + 2) 9 1 vv f.names.length (f.values.map strV)
  ne : ∀ g, vn.ownBlock = some g → vv.ownBlock ≠ some g
  len : f.values.length = f.names.length
theorem ne_row {v : Value} {row : Option Nat} (h : ∀ g, v.ownBlock = some g → row ≠ some g) : v.ownBlock = none ∨ v.ownBlock ≠ row := by
  cases hv : v.ownBlock with
  | none => exact .inl rfl
  | some g => exact .inr fun e => h g hv e.symm
theorem FAt.grown {B : Nat} {vn vv : Value} {f : Hx.F} {w w' : World} {row : Option Nat} (h : FAt B vn vv f w) (k : w.grownBy w' row) (hr : ∀ g, row = some g → g < B) : FAt B vn vv f w' := by
  refine ⟨?_, h.map.grown k (by intro e; have := hr B e.symm; omega), h.own1.kept k (ne_row fun g hg e => by have := hr g e; have := (h.own1.lt g hg).1; omega), h.own2.kept k (ne_row fun g hg e => by have := hr g e; have := (h.own2.lt g hg).1; omega), h.ne, h.len⟩
  rw [k.block _ (heap_lt h.box) (by intro e; have := hr (B + 1) e.symm; omega)]
  exact h.box
theorem FAt.mv {B b : Nat} {vn vv : Value} {f : Hx.F} {w w' : World} (h : FAt B vn vv f w) (k : Mv b w w') (hb : b < B) : FAt B vn vv f w' := h.grown k (fun g e => by injection e with e; omega)
theorem grown_of_below {w w' : World} (k : Below w.heap.size w w') : w.grownBy w' none := ⟨k.os, k.tape, k.output, k.size, fun i hi _ => k.block i hi⟩
theorem FAt.below {B : Nat} {vn vv : Value} {f : Hx.F} {w w' : World} (h : FAt B vn vv f w) (k : Below w.heap.size w w') : FAt B vn vv f w' := h.grown (grown_of_below k) (fun g e => by cases e)
theorem FAt.drewN {B : Nat} {vn vv : Value} {f : Hx.F} {w : World} (h : FAt B vn vv f w) (n : Nat) : FAt B vn vv f (w.drewN n) := h.below (below_dN (Below.refl _ _) n)
theorem FAt.cells {B : Nat} {vn vv : Value} {f : Hx.F} {w : World} (h : FAt B vn vv f w) : w.cell? ⟨B + 1, 0, none⟩ = some (.map (some B)) ∧ w.cell? ⟨B + 1, 1, none⟩ = some vn ∧ w.cell? ⟨B + 1, 2, none⟩ = some vv ∧ w.cell? ⟨B + 1, 3, none⟩ = some (.bool f.close) ∧ ∀ o, w.frozen? ⟨B + 1, o, none⟩ = false := by
  have hb := h.box
  refine ⟨?_, ?_, ?_, ?_, fun o => ?_⟩ <;> simp [World.cell?, World.frozen?, hb]
theorem FAt.close {B : Nat} {vn vv : Value} {f : Hx.F} {w : World} (h : FAt B vn vv f w) (c : Bool) : FAt B vn vv { f with close := c } (w.setCell ⟨B + 1, 3, none⟩ (.bool c)) := by
  have k : w.grownBy (w.setCell ⟨B + 1, 3, none⟩ (.bool c)) (some (B + 1)) := ⟨rfl, rfl, rfl, by simp [World.setCell], fun i _ hn => Below.heap_setCell _ _ _ _ (by intro e; exact hn (by rw [e]))⟩
  refine ⟨?_, h.map.grown k (by intro e; injection e with e; omega), h.own1.kept k (ne_row fun g hg e => by injection e with e; have := (h.own1.lt g hg).1; omega), h.own2.kept k (ne_row fun g hg e => by injection e with e; have := (h.own2.lt g hg).1; omega), h.ne, h.len⟩
  have hb := h.box
  simp [World.setCell, Array.getElem?_modify, hb]

/-- Two rows, while a name and a value are appended; what lies below is as it was. -/
structure RF (B : Nat) (w0 : World) (vn : Value) (n1 : Nat) (x1 : List Value) (vv : Value) (n2 : Nat) (x2 : List Value) (w : World) : Prop where
  own1 : w.ownsRow (B + 2) 9 1 vn n1 x1
  own2 : w.ownsRow (B + 2) 9 1 vv n2 x2
  ne : ∀ g, vn.ownBlock = some g → vv.ownBlock ≠ some g
  os : w.os = w0.os
  tape : w.tape = w0.tape
  output : w.output = w0.output
  size : w0.heap.size ≤ w.heap.size
  low : ∀ i, i < B + 2 → w.heap[i]? = w0.heap[i]?
  base : B + 2 ≤ w0.heap.size
theorem FAt.rf {B : Nat} {vn vv : Value} {f : Hx.F} {w : World} (h : FAt B vn vv f w) : RF B w vn f.names.length (f.names.map strV) vv f.names.length (f.values.map strV) w :=
  ⟨h.own1, h.own2, h.ne, rfl, rfl, rfl, Nat.le_refl _, fun _ _ => rfl, heap_lt h.box⟩
theorem RF.alloc {B : Nat} {w0 : World} {vn : Value} {n1 : Nat} {x1 : List Value} {vv : Value} {n2 : Nat} {x2 : List Value} {w : World} (h : RF B w0 vn n1 x1 vv n2 x2 w) (o : Obj) : RF B w0 vn n1 x1 vv n2 x2 (w.alloc o) :=
  ⟨h.own1.alloc o, h.own2.alloc o, h.ne, h.os, h.tape, h.output, Nat.le_trans h.size (by simp), fun i hi => (Below.heap_alloc _ _ _ (by have := h.size; have := h.base; omega)).trans (h.low i hi), h.base⟩
theorem RF.drew {B : Nat} {w0 : World} {vn : Value} {n1 : Nat} {x1 : List Value} {vv : Value} {n2 : Nat} {x2 : List Value} {w : World} (h : RF B w0 vn n1 x1 vv n2 x2 w) : RF B w0 vn n1 x1 vv n2 x2 w.drew := ⟨h.own1, h.own2, h.ne, h.os, h.tape, h.output, h.size, h.low, h.base⟩
theorem RF.app1 {B : Nat} {w0 : World} {vn vn' : Value} {n1 n1' : Nat} {x1 x1' : List Value} {vv : Value} {n2 : Nat} {x2 : List Value} {w w' : World} {g : Nat} (h : RF B w0 vn n1 x1 vv n2 x2 w) (hown : w'.ownsRow (B + 2) 9 1 vn' n1' x1') (k : w.grownBy w' vn.ownBlock) (hg : vn'.ownBlock = some g) (hat : vn.ownBlock = some g ∨ g = w.heap.size) : RF B w0 vn' n1' x1' vv n2 x2 w' := by
  refine ⟨hown, h.own2.kept k (ne_row fun g hg e => h.ne g e hg), fun g' hg' => ?_, k.os.trans h.os, k.tape.trans h.tape, k.output.trans h.output, Nat.le_trans h.size k.size, fun i hi => ?_, h.base⟩
  · rw [hg] at hg'
    injection hg' with hg'
    subst hg'
    rcases hat with e | e
    · exact h.ne g e
    · intro e2
      have := (h.own2.lt g e2).2
      omega
  · rw [k.block i (by have := h.size; have := h.base; omega) (by intro e; have := (h.own1.lt i e.symm).1; omega)]
    exact h.low i hi
theorem RF.app2 {B : Nat} {w0 : World} {vn : Value} {n1 : Nat} {x1 : List Value} {vv vv' : Value} {n2 n2' : Nat} {x2 x2' : List Value} {w w' : World} {g : Nat} (h : RF B w0 vn n1 x1 vv n2 x2 w) (hown : w'.ownsRow (B + 2) 9 1 vv' n2' x2') (k : w.grownBy w' vv.ownBlock) (hg : vv'.ownBlock = some g) (hat : vv.ownBlock = some g ∨ g = w.heap.size) : RF B w0 vn n1 x1 vv' n2' x2' w' := by
  refine ⟨h.own1.kept k (ne_row fun g hg e => h.ne g hg e), hown, fun g' hg' e => ?_, k.os.trans h.os, k.tape.trans h.tape, k.output.trans h.output, Nat.le_trans h.size k.size, fun i hi => ?_, h.base⟩
  · rw [hg] at e
    injection e with e
    subst e
    rcases hat with e | e
    · exact h.ne g hg' e
    · have := (h.own1.lt g hg').2
      omega
  · rw [k.block i (by have := h.size; have := h.base; omega) (by intro e; have := (h.own2.lt i e.symm).1; omega)]
    exact h.low i hi
theorem RF.cells {B : Nat} {w0 : World} {vn : Value} {n1 : Nat} {x1 : List Value} {vv : Value} {n2 : Nat} {x2 : List Value} {w : World} (h : RF B w0 vn n1 x1 vv n2 x2 w) {o : Nat} {u : Value} (hc : w0.cell? ⟨B + 1, o, none⟩ = some u) : w.cell? ⟨B + 1, o, none⟩ = some u :=
  (World.cell?_of_block (h.low (B + 1) (by omega))).trans hc
theorem RF.frozen {B : Nat} {w0 : World} {vn : Value} {n1 : Nat} {x1 : List Value} {vv : Value} {n2 : Nat} {x2 : List Value} {w : World} (h : RF B w0 vn n1 x1 vv n2 x2 w) {o : Nat} (hc : w0.frozen? ⟨B + 1, o, none⟩ = false) : w.frozen? ⟨B + 1, o, none⟩ = false := by
  have e := h.low (B + 1) (by omega)
  simp only [World.frozen?, e] at hc ⊢
  exact hc
theorem RF.lt {B : Nat} {w0 : World} {vn : Value} {n1 : Nat} {x1 : List Value} {vv : Value} {n2 : Nat} {x2 : List Value} {w : World} (h : RF B w0 vn n1 x1 vv n2 x2 w) : B + 2 ≤ w.heap.size := Nat.le_trans h.base h.size
theorem MapAt.heap {mb : Nat} {ns : List Hx.Bytes} {w w' : World} (h : MapAt mb ns w) (k : w'.heap[mb]? = w.heap[mb]?) : MapAt mb ns w' := by
  obtain ⟨D, ⟨es, clock, hb, h1⟩, h2, h3⟩ := h
  exact ⟨D, ⟨es, clock, k.trans hb, h1⟩, h2, h3⟩
/-- Behind the two stores. -/
theorem RF.fin {B : Nat} {w0 : World} {vn0 vv0 : Value} {f : Hx.F} (hb0 : w0.heap[B + 1]? = some (.cells #[.map (some B), vn0, vv0, .bool f.close] 77 (0, 0))) (hl : f.values.length = f.names.length) {vn vv : Value} {a b : Hx.Bytes} {w : World} (h : RF B w0 vn (f.names.length + 1) (f.names.map strV ++ [strV a]) vv (f.names.length + 1) (f.values.map strV ++ [strV b]) w)
    (hm0 : MapAt B (f.names ++ [a]) w0) : FAt B vn vv ⟨f.names ++ [a], f.values ++ [b], f.close⟩ ((w.setCell ⟨B + 1, 1, none⟩ vn).setCell ⟨B + 1, 2, none⟩ vv) := by
  have k : w.grownBy ((w.setCell ⟨B + 1, 1, none⟩ vn).setCell ⟨B + 1, 2, none⟩ vv) (some (B + 1)) := ⟨rfl, rfl, rfl, by simp [World.setCell], fun i _ hn => by
    have hi : i ≠ B + 1 := by intro e; exact hn (by rw [e])
    rw [Below.heap_setCell _ _ _ _ hi, Below.heap_setCell _ _ _ _ hi]⟩
  have hm : MapAt B (f.names ++ [a]) w := hm0.heap (h.low B (by omega))
  have hb := (h.low (B + 1) (by omega)).trans hb0
  refine ⟨?_, hm.grown k (by intro e; injection e with e; omega), ?_, ?_, h.ne, by simp [hl]⟩
  · simp [World.setCell, Array.getElem?_modify, hb]
  · have := h.own1.kept k (ne_row fun g hg e => by injection e with e; have := (h.own1.lt g hg).1; omega)
    simpa using this
  · have := h.own2.kept k (ne_row fun g hg e => by injection e with e; have := (h.own2.lt g hg).1; omega)
    simpa using this
theorem RF.below {B B0 : Nat} {w w0 : World} {vn : Value} {n1 : Nat} {x1 : List Value} {vv : Value} {n2 : Nat} {x2 : List Value} {w' : World} (h : RF B w0 vn n1 x1 vv n2 x2 w') (k : Below B0 w w0) (hB : B0 ≤ B) (a b : Value) : Below B0 w ((w'.setCell ⟨B + 1, 1, none⟩ a).setCell ⟨B + 1, 2, none⟩ b) := by
  have k1 : Below B0 w w' := k.trans ⟨h.os, h.tape, h.output, h.size, fun i hi => h.low i (by omega)⟩
  exact (k1.setCell (by simp; omega) a).setCell (by simp; omega) b
/-- The map written, the rows as they were. -/
theorem FAt.written {B : Nat} {vn vv : Value} {f : Hx.F} {w w' : World} (h : FAt B vn vv f w) (k : w.grownBy w' (some B)) : RF B w' vn f.names.length (f.names.map strV) vv f.names.length (f.values.map strV) w' ∧ w'.heap[B + 1]? = some (.cells #[.map (some B), vn, vv, .bool f.close] 77 (0, 0)) := by
  have hb : w'.heap[B + 1]? = some (.cells #[.map (some B), vn, vv, .bool f.close] 77 (0, 0)) := by
    rw [k.block _ (heap_lt h.box) (by intro e; injection e with e; omega)]; exact h.box
  refine ⟨⟨h.own1.kept k (ne_row fun g hg e => by injection e with e; have := (h.own1.lt g hg).1; omega), h.own2.kept k (ne_row fun g hg e => by injection e with e; have := (h.own2.lt g hg).1; omega), h.ne, rfl, rfl, rfl, Nat.le_refl _, fun _ _ => rfl, heap_lt hb⟩, hb⟩
end Go.Proofs.YthdmdafhldicmaaGreatDoor
