/- THE PARTS of a list or an object that is read: what holds in memory while they are gathered. No walk. -/
import Derived.Test.YtbdmepilmoomeaaGreatDoorName
import Derived.Deep.AppendLies
namespace Go.Proofs.YtbdmepilmoomeaaGreatDoor
open Go.RowKit

/-- The zero value's cells. -/
def zeroJ : Array Value := #[.int .i64 0, .bool false, .string ⟨#[]⟩, .slice none 0 0, .slice none 0 0]

/-- While parts are gathered: the call began at heap size B: block B is the result's box, B + 1 the gathered value's. -/
structure PI (b B : Nat) (kind : Int) (s : ByteArray) (w0 : World) (j m : Nat) (ns : List (List UInt8)) (ks : List Cx.J) (sn sk : Value) (css : List (List Value)) (w : World) : Prop where
  base : B = w0.heap.size
  rd : Rd b s j m w
  glb : Glb w
  mv : Mv b w0 w
  res : w.heap[B]? = some (.cells zeroJ 26 (0, 0))
  box : w.heap[B + 1]? = some (.cells #[.int .i64 kind, .bool false, .string ⟨#[]⟩, sn, sk] 26 (0, 0))
  own1 : w.ownsRow (B + 2) 9 1 sn ns.length (ns.map strV)
  own2 : w.ownsRow (B + 2) 26 5 sk ks.length css.flatten
  kids : JsAt w (fun g => B + 2 ≤ g ∧ some g ≠ sn.ownBlock ∧ some g ≠ sk.ownBlock) ks css

theorem heap_lt {w : World} {k : Nat} {o : Obj} (h : w.heap[k]? = some o) : k < w.heap.size := by
  rcases Nat.lt_or_ge k w.heap.size with g | g
  · exact g
  · rw [Array.getElem?_eq_none g] at h; cases h
theorem PI.size {b B : Nat} {kind : Int} {s : ByteArray} {w0 : World} {j m : Nat} {ns : List (List UInt8)} {ks : List Cx.J} {sn sk : Value} {css : List (List Value)} {w : World}
    (h : PI b B kind s w0 j m ns ks sn sk css w) : B + 2 ≤ w.heap.size := heap_lt h.box

/-- The reader moves on. -/
theorem PI.move {b B : Nat} {kind : Int} {s : ByteArray} {w0 : World} {j m j' m' : Nat} {ns : List (List UInt8)} {ks : List Cx.J} {sn sk : Value} {css : List (List Value)} {w w' : World}
    (h : PI b B kind s w0 j m ns ks sn sk css w) (hb : b < B) (hb8 : 8 ≤ b) (k : Mv b w w') (hrd : Rd b s j' m' w') : PI b B kind s w0 j' m' ns ks sn sk css w' where
  base := h.base
  rd := hrd
  glb := h.glb.mv k hb8
  mv := h.mv.trans k
  res := k.heap h.res (by omega)
  box := k.heap h.box (by omega)
  own1 := h.own1.kept k (by
    right; intro e
    have := h.own1.lt b e; omega)
  own2 := h.own2.kept k (by
    right; intro e
    have := h.own2.lt b e; omega)
  kids := JsAt.kept k.size (fun g hg hl => ⟨k.block g hl (by simp; omega), hg⟩) _ _ h.kids

theorem own_ne {w : World} {B : Nat} {e e' : TypeId} {n n' size size' : Nat} {v v' : Value} {xs xs' : List Value} (h : w.ownsRow B e size v n xs) (h' : w.ownsRow B e' size' v' n' xs') (he : e ≠ e') {g : Nat} (hg : v.ownBlock = some g) : v'.ownBlock ≠ some g := by
  intro hg'
  rcases h.2 with ⟨hv, _⟩ | ⟨g1, _, _, hv, _, hh, _⟩
  · rw [hv] at hg; cases hg
  · rcases h'.2 with ⟨hv', _⟩ | ⟨g2, _, _, hv', _, hh', _⟩
    · rw [hv'] at hg'; cases hg'
    · rw [hv] at hg; rw [hv'] at hg'
      simp only [Value.ownBlock, Option.some.injEq] at hg hg'
      subst hg; subst hg'
      rw [hh] at hh'; injection hh' with hh'; injection hh' with _ hh'; exact he hh'

/-- A value has been appended. -/
theorem PI.addKid {b B : Nat} {kind : Int} {s : ByteArray} {w0 : World} {j m j' m' : Nat} {ns : List (List UInt8)} {ks : List Cx.J} {sn sk : Value} {css : List (List Value)} {w wA w3 : World} {k : Cx.J} {c : List Value} {g cap : Nat}
    (h : PI b B kind s w0 j m ns ks sn sk css w) (hb : b < B) (hb8 : 8 ≤ b) (hmv : Mv b w wA) (hrd : Rd b s j' m' wA) (hk : JAt wA (fun g => w.heap.size ≤ g) k c)
    (hown : w3.ownsRow (B + 2) 26 5 (.slice (some ⟨g, 0, none⟩) (ks.length + 1) cap) (ks.length + 1) (css.flatten ++ c)) (hgrow : wA.grownBy w3 sk.ownBlock) (hg : sk.ownBlock = some g ∨ g = wA.heap.size) :
    PI b B kind s w0 j' m' ns (ks ++ [k]) sn (.slice (some ⟨g, 0, none⟩) (ks.length + 1) cap) (css ++ [c]) (w3.setCell ⟨B + 1, 4, none⟩ (.slice (some ⟨g, 0, none⟩) (ks.length + 1) cap)) := by
  have hA := h.move hb hb8 hmv hrd
  have hsz := h.size; have hszA := hmv.size
  have hlt2 : ∀ k, sk.ownBlock = some k → B + 2 ≤ k ∧ k < w.heap.size := h.own2.lt
  have hlt1 : ∀ k, sn.ownBlock = some k → B + 2 ≤ k ∧ k < w.heap.size := h.own1.lt
  have hgB : B + 2 ≤ g := by
    rcases hg with e | e
    · exact (hlt2 g e).1
    · omega
  have hskip : ∀ k, k < wA.heap.size → some k ≠ sk.ownBlock → k ≠ B + 1 → (w3.setCell ⟨B + 1, 4, none⟩ (.slice (some ⟨g, 0, none⟩) (ks.length + 1) cap)).heap[k]? = wA.heap[k]? := fun k h1 h2 h3 => by
    rw [Below.heap_setCell _ _ _ _ h3]; exact hgrow.block k h1 h2
  have hbox : w3.heap[B + 1]? = some (.cells #[.int .i64 kind, .bool false, .string ⟨#[]⟩, sn, sk] 26 (0, 0)) := by
    rw [hgrow.block (B + 1) (by omega) (fun e => by have := hlt2 _ e.symm; omega)]; exact hA.box
  have hsize : (w3.setCell ⟨B + 1, 4, none⟩ (.slice (some ⟨g, 0, none⟩) (ks.length + 1) cap)).heap.size = w3.heap.size := by simp [World.setCell]
  have hs3 := hgrow.size
  refine ⟨h.base, ?_, ?_, ?_, ?_, ?_, ?_, ?_, ?_⟩
  · unfold Rd; rw [hskip b (by have := hA.rd.lt; omega) (fun e => by have := hlt2 _ e.symm; omega) (by omega)]; exact hA.rd
  · refine hA.glb.same fun a v ha hc => ?_
    rw [World.cell?_of_block (w := wA) (hskip a.block (World.block_lt_of_cell? wA a hc) (fun e => by have := hlt2 _ e.symm; omega) (by omega))]; exact hc
  · refine ⟨hgrow.os.trans hA.mv.os, hgrow.tape.trans hA.mv.tape, hgrow.output.trans hA.mv.output, by rw [hsize]; have := hA.mv.size; omega, fun i hi hn => ?_⟩
    have hm0 := hA.mv.size
    have hB0 := h.base
    rw [← hA.mv.block i hi hn]
    exact hskip i (by omega) (fun e => by have := hlt2 _ e.symm; omega) (by omega)
  · rw [hskip B (by omega) (fun e => by have := hlt2 _ e.symm; omega) (by omega)]; exact hA.res
  · simp [World.setCell, Array.getElem?_modify, hbox]
  · refine (hA.own1.kept hgrow ?_).kept (row := some (B + 1)) ⟨rfl, rfl, rfl, by simp [World.setCell], fun k _ hk => Below.heap_setCell _ _ _ _ (fun e => hk (by simp [e]))⟩ ?_
    · rcases hs : sn.ownBlock with _ | x
      · exact .inl rfl
      · right; intro e; exact own_ne h.own1 h.own2 (by decide) hs e.symm
    · right; intro e; have := hlt1 _ e; omega
  · have := hown.kept (w' := w3.setCell ⟨B + 1, 4, none⟩ (.slice (some ⟨g, 0, none⟩) (ks.length + 1) cap)) (row := some (B + 1)) ⟨rfl, rfl, rfl, by simp [World.setCell], fun k _ hk => Below.heap_setCell _ _ _ _ (fun e => hk (by simp [e]))⟩ (by right; simp [Value.ownBlock]; omega)
    simpa using this
  · refine JsAt.snoc ?_ ?_
    · refine JAt.kept (by rw [hsize]; exact hs3) (fun x hx hl => ⟨hskip x hl (fun e => by have := hlt2 _ e.symm; omega) (by omega), by omega, fun e => by have := hlt1 _ e.symm; omega, ?_⟩) _ _ hk
      simp only [Value.ownBlock, ne_eq, Option.some.injEq]
      rintro rfl
      rcases hg with e | e
      · have := hlt2 _ e; omega
      · omega
    · refine JsAt.kept (by rw [hsize]; omega) (fun x hx hl => ⟨?_, hx.1, hx.2.1, ?_⟩) _ _ h.kids
      · rw [hskip x (by omega) hx.2.2 (by omega), hmv.block x hl (by simp; omega)]
      · simp only [Value.ownBlock, ne_eq, Option.some.injEq]
        rintro rfl
        rcases hg with e | e
        · exact hx.2.2 e.symm
        · omega

/-- A name has been appended. -/
theorem PI.addName {b B : Nat} {kind : Int} {s : ByteArray} {w0 : World} {j m j' m' : Nat} {ns : List (List UInt8)} {ks : List Cx.J} {sn sk : Value} {css : List (List Value)} {w wA w3 : World} {t : List UInt8} {g cap : Nat}
    (h : PI b B kind s w0 j m ns ks sn sk css w) (hb : b < B) (hb8 : 8 ≤ b) (hmv : Mv b w wA) (hrd : Rd b s j' m' wA)
    (hown : w3.ownsRow (B + 2) 9 1 (.slice (some ⟨g, 0, none⟩) (ns.length + 1) cap) (ns.length + 1) (ns.map strV ++ [strV t])) (hgrow : wA.grownBy w3 sn.ownBlock) (hg : sn.ownBlock = some g ∨ g = wA.heap.size) :
    PI b B kind s w0 j' m' (ns ++ [t]) ks (.slice (some ⟨g, 0, none⟩) (ns.length + 1) cap) sk css (w3.setCell ⟨B + 1, 3, none⟩ (.slice (some ⟨g, 0, none⟩) (ns.length + 1) cap)) := by
  have hA := h.move hb hb8 hmv hrd
  have hsz := h.size; have hszA := hmv.size
  have hlt2 : ∀ k, sk.ownBlock = some k → B + 2 ≤ k ∧ k < w.heap.size := h.own2.lt
  have hlt1 : ∀ k, sn.ownBlock = some k → B + 2 ≤ k ∧ k < w.heap.size := h.own1.lt
  have hgB : B + 2 ≤ g := by
    rcases hg with e | e
    · exact (hlt1 g e).1
    · omega
  have hskip : ∀ k, k < wA.heap.size → some k ≠ sn.ownBlock → k ≠ B + 1 → (w3.setCell ⟨B + 1, 3, none⟩ (.slice (some ⟨g, 0, none⟩) (ns.length + 1) cap)).heap[k]? = wA.heap[k]? := fun k h1 h2 h3 => by
    rw [Below.heap_setCell _ _ _ _ h3]; exact hgrow.block k h1 h2
  have hbox : w3.heap[B + 1]? = some (.cells #[.int .i64 kind, .bool false, .string ⟨#[]⟩, sn, sk] 26 (0, 0)) := by
    rw [hgrow.block (B + 1) (by omega) (fun e => by have := hlt1 _ e.symm; omega)]; exact hA.box
  have hsize : (w3.setCell ⟨B + 1, 3, none⟩ (.slice (some ⟨g, 0, none⟩) (ns.length + 1) cap)).heap.size = w3.heap.size := by simp [World.setCell]
  have hs3 := hgrow.size
  refine ⟨h.base, ?_, ?_, ?_, ?_, ?_, ?_, ?_, ?_⟩
  · unfold Rd; rw [hskip b (by have := hA.rd.lt; omega) (fun e => by have := hlt1 _ e.symm; omega) (by omega)]; exact hA.rd
  · refine hA.glb.same fun a v ha hc => ?_
    rw [World.cell?_of_block (w := wA) (hskip a.block (World.block_lt_of_cell? wA a hc) (fun e => by have := hlt1 _ e.symm; omega) (by omega))]; exact hc
  · refine ⟨hgrow.os.trans hA.mv.os, hgrow.tape.trans hA.mv.tape, hgrow.output.trans hA.mv.output, by rw [hsize]; have := hA.mv.size; omega, fun i hi hn => ?_⟩
    have hm0 := hA.mv.size
    have hB0 := h.base
    rw [← hA.mv.block i hi hn]
    exact hskip i (by omega) (fun e => by have := hlt1 _ e.symm; omega) (by omega)
  · rw [hskip B (by omega) (fun e => by have := hlt1 _ e.symm; omega) (by omega)]; exact hA.res
  · simp [World.setCell, Array.getElem?_modify, hbox]
  · have := hown.kept (w' := w3.setCell ⟨B + 1, 3, none⟩ (.slice (some ⟨g, 0, none⟩) (ns.length + 1) cap)) (row := some (B + 1)) ⟨rfl, rfl, rfl, by simp [World.setCell], fun k _ hk => Below.heap_setCell _ _ _ _ (fun e => hk (by simp [e]))⟩ (by right; simp [Value.ownBlock]; omega)
    simpa using this
  · refine (hA.own2.kept hgrow ?_).kept (row := some (B + 1)) ⟨rfl, rfl, rfl, by simp [World.setCell], fun k _ hk => Below.heap_setCell _ _ _ _ (fun e => hk (by simp [e]))⟩ ?_
    · rcases hs : sk.ownBlock with _ | x
      · exact .inl rfl
      · right; intro e; exact own_ne h.own2 h.own1 (by decide) hs e.symm
    · right; intro e; have := hlt2 _ e; omega
  · refine JsAt.kept (by rw [hsize]; omega) (fun x hx hl => ⟨?_, hx.1, ?_, hx.2.2⟩) _ _ h.kids
    · rw [hskip x (by omega) hx.2.1 (by omega), hmv.block x hl (by simp; omega)]
    · simp only [Value.ownBlock, ne_eq, Option.some.injEq]
      rintro rfl
      rcases hg with e | e
      · exact hx.2.1 e.symm
      · omega
end Go.Proofs.YtbdmepilmoomeaaGreatDoor
