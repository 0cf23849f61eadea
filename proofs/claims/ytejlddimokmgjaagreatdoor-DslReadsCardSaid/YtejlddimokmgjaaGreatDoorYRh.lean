/- THE PARTS of a list or an object, as the document's answer gathers them. No walk. -/
import Derived.Test.YtejlddimokmgjaaGreatDoorYRg
import Derived.Test.YtejlddimokmgjaaGreatDoorKf
namespace Go.Proofs.YtejlddimokmgjaaGreatDoor
open Go.RowKit

/-- While parts are gathered: the call began at heap size B: block B is the result's box, B + 1 the gathered value's. -/
structure PJ (b B : Nat) (kind : Int) (s : ByteArray) (w0 : World) (j : Nat) (m e p : Int) (ns : List (List UInt8)) (ks : List Cx.J) (sn sk : Value) (css : List (List Value)) (w : World) : Prop where
  base : B = w0.heap.size
  rd : R2 b s j m e p w
  mv : Mv b w0 w
  res : w.heap[B]? = some (.cells zeroJ 48 (0, 0))
  box : w.heap[B + 1]? = some (.cells #[.int .i64 kind, .bool false, .string ⟨#[]⟩, sn, sk] 48 (0, 0))
  own1 : w.ownsRow (B + 2) 9 1 sn ns.length (ns.map strV)
  own2 : w.ownsRow (B + 2) 48 5 sk ks.length css.flatten
  kids : JsAt w (fun g => B + 2 ≤ g ∧ some g ≠ sn.ownBlock ∧ some g ≠ sk.ownBlock) ks css


theorem PJ.size {b B : Nat} {kind : Int} {s : ByteArray} {w0 : World} {j : Nat} {m e p : Int} {ns : List (List UInt8)} {ks : List Cx.J} {sn sk : Value} {css : List (List Value)} {w : World}
    (h : PJ b B kind s w0 j m e p ns ks sn sk css w) : B + 2 ≤ w.heap.size := heap_lt h.box

/-- The reader moves on. -/
theorem PJ.move {b B : Nat} {kind : Int} {s : ByteArray} {w0 : World} {j j' : Nat} {m e p m' e' p' : Int} {ns : List (List UInt8)} {ks : List Cx.J} {sn sk : Value} {css : List (List Value)} {w w' : World}
    (h : PJ b B kind s w0 j m e p ns ks sn sk css w) (hb : b < B) (k : Mv b w w') (hrd : R2 b s j' m' e' p' w') : PJ b B kind s w0 j' m' e' p' ns ks sn sk css w' where
  base := h.base
  rd := hrd
  mv := h.mv.trans k
  res := k.heap h.res (by omega)
  box := k.heap h.box (by omega)
  own1 := h.own1.kept k (by
    right; intro e
    have := h.own1.lt b e; omega)
  own2 := h.own2.kept k (by
    right; intro e
    have := h.own2.lt b e; omega)
  kids := JsAt.kept k.size (fun g hg hl => ⟨k.block g hl (by simp; omega), hg⟩) _ _ h.kids


/-- A value has been appended. -/
theorem PJ.addKid {b B : Nat} {kind : Int} {s : ByteArray} {w0 : World} {j j' : Nat} {m e p m' e' p' : Int} {ns : List (List UInt8)} {ks : List Cx.J} {sn sk : Value} {css : List (List Value)} {w wA w3 : World} {k : Cx.J} {c : List Value} {g cap : Nat}
    (h : PJ b B kind s w0 j m e p ns ks sn sk css w) (hb : b < B) (hmv : Mv b w wA) (hrd : R2 b s j' m' e' p' wA) (hk : JAt wA (fun g => w.heap.size ≤ g) k c)
    (hown : w3.ownsRow (B + 2) 48 5 (.slice (some ⟨g, 0, none⟩) (ks.length + 1) cap) (ks.length + 1) (css.flatten ++ c)) (hgrow : wA.grownBy w3 sk.ownBlock) (hg : sk.ownBlock = some g ∨ g = wA.heap.size) :
    PJ b B kind s w0 j' m' e' p' ns (ks ++ [k]) sn (.slice (some ⟨g, 0, none⟩) (ks.length + 1) cap) (css ++ [c]) (w3.setCell ⟨B + 1, 4, none⟩ (.slice (some ⟨g, 0, none⟩) (ks.length + 1) cap)) := by
  have hA := h.move hb hmv hrd
  have hsz := h.size; have hszA := hmv.size
  have hlt2 : ∀ k, sk.ownBlock = some k → B + 2 ≤ k ∧ k < w.heap.size := h.own2.lt
  have hlt1 : ∀ k, sn.ownBlock = some k → B + 2 ≤ k ∧ k < w.heap.size := h.own1.lt
  have hgB : B + 2 ≤ g := by
    rcases hg with e | e
    · exact (hlt2 g e).1
    · omega
  have hskip : ∀ k, k < wA.heap.size → some k ≠ sk.ownBlock → k ≠ B + 1 → (w3.setCell ⟨B + 1, 4, none⟩ (.slice (some ⟨g, 0, none⟩) (ks.length + 1) cap)).heap[k]? = wA.heap[k]? := fun k h1 h2 h3 => by
    rw [Below.heap_setCell _ _ _ _ h3]; exact hgrow.block k h1 h2
  have hbox : w3.heap[B + 1]? = some (.cells #[.int .i64 kind, .bool false, .string ⟨#[]⟩, sn, sk] 48 (0, 0)) := by
    rw [hgrow.block (B + 1) (by omega) (fun e => by have := hlt2 _ e.symm; omega)]; exact hA.box
  have hsize : (w3.setCell ⟨B + 1, 4, none⟩ (.slice (some ⟨g, 0, none⟩) (ks.length + 1) cap)).heap.size = w3.heap.size := by simp [World.setCell]
  have hs3 := hgrow.size
  refine ⟨h.base, ?_, ?_, ?_, ?_, ?_, ?_, ?_⟩
  · unfold R2; rw [hskip b (by have := hA.rd.lt; omega) (fun e => by have := hlt2 _ e.symm; omega) (by omega)]; exact hA.rd
  · refine ⟨hgrow.os.trans hA.mv.os, hgrow.tape.trans hA.mv.tape, hgrow.output.trans hA.mv.output, by rw [hsize]; have := hA.mv.size; omega, fun i hi hn => ?_⟩
    have hm0 := hA.mv.size
    have hB0 := h.base
    rw [← hA.mv.block i hi hn]
    exact hskip i (by omega) (fun e => by have := hlt2 _ e.symm; omega) (by omega)
  · rw [hskip B (by omega) (fun e => by have := hlt2 _ e.symm; omega) (by omega)]; exact hA.res
  · simp [World.setCell, Array.getElem?_modify, hbox]
  · refine (hA.own1.kept hgrow ?_).kept (row := some (B + 1)) ⟨rfl, rfl, rfl, by simp [World.setCell], fun k _ hk => Below.heap_setCell _ _ _ _ (fun e => hk (by simp [e]))⟩ ?_
    · rcases hs : sn.ownBlock with _ | x
      · exact .inl rfl
      · right; intro e; exact own_ne h.own1 h.own2 (by decide) hs e.symm
    · right; intro e; have := hlt1 _ e; omega
  · have := hown.kept (w' := w3.setCell ⟨B + 1, 4, none⟩ (.slice (some ⟨g, 0, none⟩) (ks.length + 1) cap)) (row := some (B + 1)) ⟨rfl, rfl, rfl, by simp [World.setCell], fun k _ hk => Below.heap_setCell _ _ _ _ (fun e => hk (by simp [e]))⟩ (by right; simp [Value.ownBlock]; omega)
    simpa using this
  · refine JsAt.snoc ?_ ?_
    · refine JAt.kept (by rw [hsize]; exact hs3) (fun x hx hl => ⟨hskip x hl (fun e => by have := hlt2 _ e.symm; omega) (by omega), by omega, fun e => by have := hlt1 _ e.symm; omega, ?_⟩) _ _ hk
      simp only [Value.ownBlock, ne_eq, Option.some.injEq]
      rintro rfl
      rcases hg with e | e
      · have := hlt2 _ e; omega
      · omega
    · refine JsAt.kept (by rw [hsize]; omega) (fun x hx hl => ⟨?_, hx.1, hx.2.1, ?_⟩) _ _ h.kids
      · rw [hskip x (by omega) hx.2.2 (by omega), hmv.block x hl (by simp; omega)]
      · simp only [Value.ownBlock, ne_eq, Option.some.injEq]
        rintro rfl
        rcases hg with e | e
        · exact hx.2.2 e.symm
        · omega

/-- A name has been appended. -/
theorem PJ.addName {b B : Nat} {kind : Int} {s : ByteArray} {w0 : World} {j j' : Nat} {m e p m' e' p' : Int} {ns : List (List UInt8)} {ks : List Cx.J} {sn sk : Value} {css : List (List Value)} {w wA w3 : World} {t : List UInt8} {g cap : Nat}
    (h : PJ b B kind s w0 j m e p ns ks sn sk css w) (hb : b < B) (hmv : Mv b w wA) (hrd : R2 b s j' m' e' p' wA)
    (hown : w3.ownsRow (B + 2) 9 1 (.slice (some ⟨g, 0, none⟩) (ns.length + 1) cap) (ns.length + 1) (ns.map strV ++ [strV t])) (hgrow : wA.grownBy w3 sn.ownBlock) (hg : sn.ownBlock = some g ∨ g = wA.heap.size) :
    PJ b B kind s w0 j' m' e' p' (ns ++ [t]) ks (.slice (some ⟨g, 0, none⟩) (ns.length + 1) cap) sk css (w3.setCell ⟨B + 1, 3, none⟩ (.slice (some ⟨g, 0, none⟩) (ns.length + 1) cap)) := by
  have hA := h.move hb hmv hrd
  have hsz := h.size; have hszA := hmv.size
  have hlt2 : ∀ k, sk.ownBlock = some k → B + 2 ≤ k ∧ k < w.heap.size := h.own2.lt
  have hlt1 : ∀ k, sn.ownBlock = some k → B + 2 ≤ k ∧ k < w.heap.size := h.own1.lt
  have hgB : B + 2 ≤ g := by
    rcases hg with e | e
    · exact (hlt1 g e).1
    · omega
  have hskip : ∀ k, k < wA.heap.size → some k ≠ sn.ownBlock → k ≠ B + 1 → (w3.setCell ⟨B + 1, 3, none⟩ (.slice (some ⟨g, 0, none⟩) (ns.length + 1) cap)).heap[k]? = wA.heap[k]? := fun k h1 h2 h3 => by
    rw [Below.heap_setCell _ _ _ _ h3]; exact hgrow.block k h1 h2
  have hbox : w3.heap[B + 1]? = some (.cells #[.int .i64 kind, .bool false, .string ⟨#[]⟩, sn, sk] 48 (0, 0)) := by
    rw [hgrow.block (B + 1) (by omega) (fun e => by have := hlt1 _ e.symm; omega)]; exact hA.box
  have hsize : (w3.setCell ⟨B + 1, 3, none⟩ (.slice (some ⟨g, 0, none⟩) (ns.length + 1) cap)).heap.size = w3.heap.size := by simp [World.setCell]
  have hs3 := hgrow.size
  refine ⟨h.base, ?_, ?_, ?_, ?_, ?_, ?_, ?_⟩
  · unfold R2; rw [hskip b (by have := hA.rd.lt; omega) (fun e => by have := hlt1 _ e.symm; omega) (by omega)]; exact hA.rd
  · refine ⟨hgrow.os.trans hA.mv.os, hgrow.tape.trans hA.mv.tape, hgrow.output.trans hA.mv.output, by rw [hsize]; have := hA.mv.size; omega, fun i hi hn => ?_⟩
    have hm0 := hA.mv.size
    have hB0 := h.base
    rw [← hA.mv.block i hi hn]
    exact hskip i (by omega) (fun e => by have := hlt1 _ e.symm; omega) (by omega)
  · rw [hskip B (by omega) (fun e => by have := hlt1 _ e.symm; omega) (by omega)]; exact hA.res
  · simp [World.setCell, Array.getElem?_modify, hbox]
  · have := hown.kept (w' := w3.setCell ⟨B + 1, 3, none⟩ (.slice (some ⟨g, 0, none⟩) (ns.length + 1) cap)) (row := some (B + 1)) ⟨rfl, rfl, rfl, by simp [World.setCell], fun k _ hk => Below.heap_setCell _ _ _ _ (fun e => hk (by simp [e]))⟩ (by right; simp [Value.ownBlock]; omega)
    simpa using this
  · refine (hA.own2.kept hgrow ?_).kept (row := some (B + 1)) ⟨rfl, rfl, rfl, by simp [World.setCell], fun k _ hk => Below.heap_setCell _ _ _ _ (fun e => hk (by simp [e]))⟩ ?_
    · rcases hs : sk.ownBlock with _ | x
      · exact .inl rfl
      · right; intro e; exact own_ne h.own2 h.own1 (by decide) hs e.symm
    · right; intro e; have := hlt2 _ e; omega
  · refine JsAt.kept (by rw [hsize]; omega) (fun x hx hl => ⟨?_, hx.1, ?_, hx.2.2⟩) _ _ h.kids
    · rw [hskip x (by omega) hx.2.1 (by omega), hmv.block x hl (by simp; omega)]
    · simp only [Value.ownBlock, ne_eq, Option.some.injEq]
      rintro rfl
      rcases hg with e | e
      · exact hx.2.1 e.symm
      · omega

/-- What has been gathered, as the value. -/
theorem PJ.shut {b B : Nat} {kind : Int} {s : ByteArray} {w0 : World} {j : Nat} {m e p : Int} {ns : List (List UInt8)} {ks : List Cx.J} {sn sk : Value} {css : List (List Value)} {w w' : World}
    (h : PJ b B kind s w0 j m e p ns ks sn sk css w) (hs : w.heap.size ≤ w'.heap.size) (hk : ∀ g, B + 2 ≤ g → g < w.heap.size → w'.heap[g]? = w.heap[g]?) :
    JAt w' (fun g => w0.heap.size ≤ g) (.mk kind false [] ns ks) [.int .i64 kind, .bool false, strV [], sn, sk] := by
  have hB := h.base
  unfold JAt
  refine ⟨sn, sk, rfl, ?_, css, ?_, ?_⟩
  · exact (Row.of_own (ok := fun g => B + 2 ≤ g) h.own1 fun g hg => (h.own1.lt g hg).1).kept hs fun g hg hl => ⟨hk g hg hl, by omega⟩
  · exact JsAt.kept hs (fun g hg hl => ⟨hk g hg.1 hl, by omega⟩) _ _ h.kids
  · exact (Row.of_own (ok := fun g => B + 2 ≤ g) h.own2 fun g hg => (h.own2.lt g hg).1).kept hs fun g hg hl => ⟨hk g hg hl, by omega⟩


/-- At the end: the gathered value is laid into the result's box. -/
theorem PJ.fin {b B : Nat} {kind : Int} {s : ByteArray} {w0 : World} {j : Nat} {m e p : Int} {ns : List (List UInt8)} {ks : List Cx.J} {sn sk : Value} {css : List (List Value)} {w : World}
    (h : PJ b B kind s w0 j m e p ns ks sn sk css w) (hb : b < B) :
    JAt (put5 w B (.int .i64 kind) (.bool false) (.string ⟨#[]⟩) sn sk) (fun g => w0.heap.size ≤ g) (.mk kind false [] ns ks) [.int .i64 kind, .bool false, strV [], sn, sk] ∧
    R2 b s j m e p (put5 w B (.int .i64 kind) (.bool false) (.string ⟨#[]⟩) sn sk) ∧ Mv b w0 (put5 w B (.int .i64 kind) (.bool false) (.string ⟨#[]⟩) sn sk) := by
  have hB := h.base
  refine ⟨h.shut (by rw [put5_size]; exact Nat.le_refl _) fun g hg _ => put5_other (by omega), ?_, put5_mv h.mv (by omega)⟩
  unfold R2; rw [put5_other (by omega)]; exact h.rd

/-- At the beginning: nothing is gathered. -/
theorem PJ.fresh {b : Nat} {kind : Int} {s : ByteArray} {w : World} {i : Nat} {m e p : Int} (hrd : R2 b s i m e p w) :
    PJ b w.heap.size kind s w i m e p [] [] (.slice none 0 0) (.slice none 0 0) [] ((w.alloc (.cells zeroJ 48)).alloc (.cells #[.int .i64 kind, .bool false, .string ⟨#[]⟩, .slice none 0 0, .slice none 0 0] 48)) where
  base := rfl
  rd := (hrd.alloc _).alloc _
  mv := ((Mv.refl b w).alloc _).alloc _
  res := by rw [Below.heap_alloc _ _ _ (by simp)]; exact heap_alloc_new w _
  box := by
    have := heap_alloc_new (w.alloc (.cells zeroJ 48)) (.cells #[.int .i64 kind, .bool false, .string ⟨#[]⟩, .slice none 0 0, .slice none 0 0] 48)
    simpa using this
  own1 := World.ownsRow_nil _ _ _ _
  own2 := World.ownsRow_nil _ _ _ _
  kids := by unfold JsAt; rfl

/-- Behind an append the box stands as it stood. -/
theorem PJ.next {b B : Nat} {kind : Int} {s : ByteArray} {w0 : World} {j : Nat} {m e p : Int} {ns : List (List UInt8)} {ks : List Cx.J} {sn sk : Value} {css : List (List Value)} {w w5 : World} {o : Obj}
    (h : PJ b B kind s w0 j m e p ns ks sn sk css w) (hg : (w.alloc o).grownBy w5 sk.ownBlock) : w5.cell? ⟨B + 1, 4, none⟩ = some sk ∧ w5.frozen? ⟨B + 1, 4, none⟩ = false := by
  have hs := h.size
  have hb : w5.heap[B + 1]? = some (.cells #[.int .i64 kind, .bool false, .string ⟨#[]⟩, sn, sk] 48 (0, 0)) := by
    rw [hg.block (B + 1) (by simp; omega) (fun e => by have := h.own2.lt _ e.symm; omega), Below.heap_alloc _ _ _ (by omega)]; exact h.box
  have := cells5 hb
  exact ⟨this.2.2.2.2.1, this.2.2.2.2.2 4⟩


/-- Behind an append of a name the box stands as it stood. -/
theorem PJ.next1 {b B : Nat} {kind : Int} {s : ByteArray} {w0 : World} {j : Nat} {m e p : Int} {ns : List (List UInt8)} {ks : List Cx.J} {sn sk : Value} {css : List (List Value)} {w w5 : World} {o : Obj}
    (h : PJ b B kind s w0 j m e p ns ks sn sk css w) (hg : (w.alloc o).grownBy w5 sn.ownBlock) : w5.cell? ⟨B + 1, 3, none⟩ = some sn ∧ w5.frozen? ⟨B + 1, 3, none⟩ = false := by
  have hs := h.size
  have hb : w5.heap[B + 1]? = some (.cells #[.int .i64 kind, .bool false, .string ⟨#[]⟩, sn, sk] 48 (0, 0)) := by
    rw [hg.block (B + 1) (by simp; omega) (fun e => by have := h.own1.lt _ e.symm; omega), Below.heap_alloc _ _ _ (by omega)]; exact h.box
  have := cells5 hb
  exact ⟨this.2.2.2.1, this.2.2.2.2.2 3⟩

end Go.Proofs.YtejlddimokmgjaaGreatDoor
