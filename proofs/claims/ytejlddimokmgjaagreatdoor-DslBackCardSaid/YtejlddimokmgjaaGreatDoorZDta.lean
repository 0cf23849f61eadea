/- AN OBJECT THAT IS GATHERED in memory: its box, its names, its kids. No walk. -/
import Derived.Test.YtejlddimokmgjaaGreatDoorGi
namespace Go.Proofs.YtejlddimokmgjaaGreatDoor
open Go.RowKit

theorem ownsRow_belowT {w w' : World} {B : Nat} {e : TypeId} {size : Nat} {v : Value} {n : Nat} {xs : List Value} (h : w.ownsRow B e size v n xs) (k : Below w.heap.size w w') : w'.ownsRow B e size v n xs :=
  h.kept (row := none) ⟨k.os, k.tape, k.output, k.size, fun i hi _ => k.block i hi⟩ (by
    rcases hs : v.ownBlock with _ | x
    · exact .inl rfl
    · right; simp)
/-- Block K is the box of a value whose rows lie in blocks from B on that are its own. -/
structure TB (B K : Nat) (kind : Int) (ns : List (List UInt8)) (ks : List Cx.J) (sn sk : Value) (css : List (List Value)) (w : World) : Prop where
  lt : K < B
  base : B ≤ w.heap.size
  box : w.heap[K]? = some (.cells #[.int .i64 kind, .bool false, .string ⟨#[]⟩, sn, sk] 48 (0, 0))
  own1 : w.ownsRow B 9 1 sn ns.length (ns.map strV)
  own2 : w.ownsRow B 48 5 sk ks.length css.flatten
  kids : JsAt w (fun g => B ≤ g ∧ some g ≠ sn.ownBlock ∧ some g ≠ sk.ownBlock) ks css

theorem TB.fresh {K : Nat} {kind : Int} {w : World} (h : w.heap[K]? = some (.cells #[.int .i64 kind, .bool false, .string ⟨#[]⟩, .slice none 0 0, .slice none 0 0] 48 (0, 0))) : TB w.heap.size K kind [] [] (.slice none 0 0) (.slice none 0 0) [] w where
  lt := heap_lt h
  base := Nat.le_refl _
  box := h
  own1 := World.ownsRow_nil _ _ _ _
  own2 := World.ownsRow_nil _ _ _ _
  kids := by unfold JsAt; rfl
theorem TB.below {B K : Nat} {kind : Int} {ns : List (List UInt8)} {ks : List Cx.J} {sn sk : Value} {css : List (List Value)} {w w' : World} (h : TB B K kind ns ks sn sk css w) (k : Below w.heap.size w w') : TB B K kind ns ks sn sk css w' where
  lt := h.lt
  base := Nat.le_trans h.base k.size
  box := (k.block _ (heap_lt h.box)).trans h.box
  own1 := ownsRow_belowT h.own1 k
  own2 := ownsRow_belowT h.own2 k
  kids := JsAt.kept k.size (fun g hg hl => ⟨k.block g hl, hg⟩) _ _ h.kids
/-- What it holds. -/
theorem TB.jat {B K : Nat} {kind : Int} {ns : List (List UInt8)} {ks : List Cx.J} {sn sk : Value} {css : List (List Value)} {w : World} (h : TB B K kind ns ks sn sk css w) : JAt w (fun g => B ≤ g) (.mk kind false [] ns ks) [.int .i64 kind, .bool false, .string ⟨#[]⟩, sn, sk] := by
  unfold JAt
  exact ⟨sn, sk, rfl, Row.of_own h.own1 (fun g hg => (h.own1.lt g hg).1), css, JsAt.kept (Nat.le_refl _) (fun g hg _ => ⟨rfl, hg.1⟩) _ _ h.kids, Row.of_own h.own2 (fun g hg => (h.own2.lt g hg).1)⟩
/-- Nothing turns below B but the box. -/
structure FrB (B K : Nat) (w w' : World) : Prop where
  os : w'.os = w.os
  tape : w'.tape = w.tape
  output : w'.output = w.output
  size : w.heap.size ≤ w'.heap.size
  block : ∀ i, i < B → i ≠ K → w'.heap[i]? = w.heap[i]?
theorem FrB.refl (B K : Nat) (w : World) : FrB B K w w := ⟨rfl, rfl, rfl, Nat.le_refl _, fun _ _ _ => rfl⟩
theorem FrB.trans {B K : Nat} {w w' w'' : World} (h : FrB B K w w') (k : FrB B K w' w'') : FrB B K w w'' := ⟨k.os.trans h.os, k.tape.trans h.tape, k.output.trans h.output, Nat.le_trans h.size k.size, fun i hi hn => (k.block i hi hn).trans (h.block i hi hn)⟩
theorem FrB.of_below {B K : Nat} {w w' : World} (h : Below B w w') : FrB B K w w' := ⟨h.os, h.tape, h.output, h.size, fun i hi _ => h.block i hi⟩
theorem FrB.to_below {A B K : Nat} {w w' : World} (h : FrB B K w w') (h1 : A ≤ K) (h2 : A ≤ B) : Below A w w' := ⟨h.os, h.tape, h.output, h.size, fun i hi => h.block i (by omega) (by omega)⟩

/-- A value has been appended to the kids of the box. -/
theorem TB.addKid {B K : Nat} {kind : Int} {ns : List (List UInt8)} {ks : List Cx.J} {sn sk : Value} {css : List (List Value)} {w w3 : World} {k : Cx.J} {c : List Value} {C g cap : Nat}
    (h : TB B K kind ns ks sn sk css w) (hk : JAt w (fun g => C ≤ g ∧ some g ≠ sn.ownBlock ∧ some g ≠ sk.ownBlock) k c) (hC : B ≤ C)
    (hown : w3.ownsRow B 48 5 (.slice (some ⟨g, 0, none⟩) (ks.length + 1) cap) (ks.length + 1) (css.flatten ++ c)) (hgrow : w.grownBy w3 sk.ownBlock) (hg : sk.ownBlock = some g ∨ g = w.heap.size) :
    TB B K kind ns (ks ++ [k]) sn (.slice (some ⟨g, 0, none⟩) (ks.length + 1) cap) (css ++ [c]) (w3.setCell ⟨K, 4, none⟩ (.slice (some ⟨g, 0, none⟩) (ks.length + 1) cap)) := by
  have hlt := h.lt; have hsz := h.base
  have hlt2 : ∀ k, sk.ownBlock = some k → B ≤ k ∧ k < w.heap.size := h.own2.lt
  have hlt1 : ∀ k, sn.ownBlock = some k → B ≤ k ∧ k < w.heap.size := h.own1.lt
  have hgB : B ≤ g := by
    rcases hg with e | e
    · exact (hlt2 g e).1
    · omega
  have hskip : ∀ k, k < w.heap.size → some k ≠ sk.ownBlock → k ≠ K → (w3.setCell ⟨K, 4, none⟩ (.slice (some ⟨g, 0, none⟩) (ks.length + 1) cap)).heap[k]? = w.heap[k]? := fun k h1 h2 h3 => by
    rw [Below.heap_setCell _ _ _ _ h3]; exact hgrow.block k h1 h2
  have hbox : w3.heap[K]? = some (.cells #[.int .i64 kind, .bool false, .string ⟨#[]⟩, sn, sk] 48 (0, 0)) := by
    rw [hgrow.block K (by omega) (fun e => by have := hlt2 _ e.symm; omega)]; exact h.box
  have hsize : (w3.setCell ⟨K, 4, none⟩ (.slice (some ⟨g, 0, none⟩) (ks.length + 1) cap)).heap.size = w3.heap.size := by simp [World.setCell]
  have hs3 := hgrow.size
  have kset : w3.grownBy (w3.setCell ⟨K, 4, none⟩ (.slice (some ⟨g, 0, none⟩) (ks.length + 1) cap)) (some K) := ⟨rfl, rfl, rfl, by simp [World.setCell], fun k _ hk => Below.heap_setCell _ _ _ _ (fun e => hk (by simp [e]))⟩
  refine ⟨hlt, by rw [hsize]; omega, ?_, ?_, ?_, ?_⟩
  · simp [World.setCell, Array.getElem?_modify, hbox]
  · refine (h.own1.kept hgrow ?_).kept kset ?_
    · rcases hs : sn.ownBlock with _ | x
      · exact .inl rfl
      · right; intro e; exact own_ne h.own1 h.own2 (by decide) hs e.symm
    · right; intro e; have := hlt1 _ e; omega
  · have := hown.kept kset (by right; simp [Value.ownBlock]; omega)
    simpa using this
  · refine JsAt.snoc ?_ ?_
    · refine JAt.kept (by rw [hsize]; exact hs3) (fun x hx hl => ⟨hskip x hl hx.2.2 (by omega), by omega, hx.2.1, ?_⟩) _ _ hk
      simp only [Value.ownBlock, ne_eq, Option.some.injEq]
      rintro rfl
      rcases hg with e | e
      · exact hx.2.2 e.symm
      · omega
    · refine JsAt.kept (by rw [hsize]; omega) (fun x hx hl => ⟨hskip x hl hx.2.2 (by omega), hx.1, hx.2.1, ?_⟩) _ _ h.kids
      simp only [Value.ownBlock, ne_eq, Option.some.injEq]
      rintro rfl
      rcases hg with e | e
      · exact hx.2.2 e.symm
      · omega
/-- The frame of that. -/
theorem TB.frame {B K : Nat} {kind : Int} {ns : List (List UInt8)} {ks : List Cx.J} {sn sk : Value} {css : List (List Value)} {w w3 : World} {j : Nat} {u : Value}
    (h : TB B K kind ns ks sn sk css w) (hgrow : w.grownBy w3 sk.ownBlock) : FrB B K w (w3.setCell ⟨K, j, none⟩ u) := by
  have hsz := h.base
  refine ⟨hgrow.os, hgrow.tape, hgrow.output, by simp [World.setCell]; exact hgrow.size, fun i hi hn => ?_⟩
  rw [Below.heap_setCell _ _ _ _ hn]
  exact hgrow.block i (by omega) (fun e => by have := (h.own2.lt i e.symm).1; omega)

/-- Two rows, a name's and a kid's, while they are appended to, in either order; everything else is as it was. -/
structure RT (B : Nat) (w0 : World) (sn0 sk0 : Value) (vn : Value) (n1 : Nat) (x1 : List Value) (vv : Value) (n2 : Nat) (x2 : List Value) (w : World) : Prop where
  own1 : w.ownsRow B 9 1 vn n1 x1
  own2 : w.ownsRow B 48 5 vv n2 x2
  at1 : vn.ownBlock = sn0.ownBlock ∨ ∀ g, vn.ownBlock = some g → w0.heap.size ≤ g
  at2 : vv.ownBlock = sk0.ownBlock ∨ ∀ g, vv.ownBlock = some g → w0.heap.size ≤ g
  os : w.os = w0.os
  tape : w.tape = w0.tape
  output : w.output = w0.output
  size : w0.heap.size ≤ w.heap.size
  low : ∀ i, i < w0.heap.size → some i ≠ sn0.ownBlock → some i ≠ sk0.ownBlock → w.heap[i]? = w0.heap[i]?
  base : B ≤ w0.heap.size
theorem TB.rt {B K : Nat} {kind : Int} {ns : List (List UInt8)} {ks : List Cx.J} {sn sk : Value} {css : List (List Value)} {w : World} (h : TB B K kind ns ks sn sk css w) : RT B w sn sk sn ns.length (ns.map strV) sk ks.length css.flatten w :=
  ⟨h.own1, h.own2, .inl rfl, .inl rfl, rfl, rfl, rfl, Nat.le_refl _, fun _ _ _ _ => rfl, h.base⟩
theorem RT.alloc {B : Nat} {w0 : World} {sn0 sk0 vn : Value} {n1 : Nat} {x1 : List Value} {vv : Value} {n2 : Nat} {x2 : List Value} {w : World} (h : RT B w0 sn0 sk0 vn n1 x1 vv n2 x2 w) (o : Obj) : RT B w0 sn0 sk0 vn n1 x1 vv n2 x2 (w.alloc o) :=
  ⟨h.own1.alloc o, h.own2.alloc o, h.at1, h.at2, h.os, h.tape, h.output, Nat.le_trans h.size (by simp), fun i hi e1 e2 => (Below.heap_alloc _ _ _ (by have := h.size; omega)).trans (h.low i hi e1 e2), h.base⟩
theorem RT.drew {B : Nat} {w0 : World} {sn0 sk0 vn : Value} {n1 : Nat} {x1 : List Value} {vv : Value} {n2 : Nat} {x2 : List Value} {w : World} (h : RT B w0 sn0 sk0 vn n1 x1 vv n2 x2 w) : RT B w0 sn0 sk0 vn n1 x1 vv n2 x2 w.drew := ⟨h.own1, h.own2, h.at1, h.at2, h.os, h.tape, h.output, h.size, h.low, h.base⟩
theorem RT.app1 {B : Nat} {w0 : World} {sn0 sk0 vn vn' : Value} {n1 n1' : Nat} {x1 x1' : List Value} {vv : Value} {n2 : Nat} {x2 : List Value} {w w' : World} {g : Nat} (h : RT B w0 sn0 sk0 vn n1 x1 vv n2 x2 w) (hown : w'.ownsRow B 9 1 vn' n1' x1') (k : w.grownBy w' vn.ownBlock) (hg : vn'.ownBlock = some g) (hat : vn.ownBlock = some g ∨ g = w.heap.size) : RT B w0 sn0 sk0 vn' n1' x1' vv n2 x2 w' := by
  refine ⟨hown, h.own2.kept k ?_, ?_, h.at2, k.os.trans h.os, k.tape.trans h.tape, k.output.trans h.output, Nat.le_trans h.size k.size, fun i hi e1 e2 => ?_, h.base⟩
  · rcases hs : vv.ownBlock with _ | x
    · exact .inl rfl
    · right; intro e; exact own_ne h.own2 h.own1 (by decide) hs e.symm
  · have hz := h.size
    rcases hat with e | e
    · rcases h.at1 with a | a
      · left; rw [hg, ← a, e]
      · right; intro x hx; rw [hg] at hx; injection hx with hx; subst hx; exact a g e
    · right; intro x hx; rw [hg] at hx; injection hx with hx; omega
  · rw [k.block i (by have := h.size; omega) (fun e => ?_)]
    · exact h.low i hi e1 e2
    · rcases h.at1 with a | a
      · exact e1 (e.trans a)
      · have := a i e.symm; omega
theorem RT.app2 {B : Nat} {w0 : World} {sn0 sk0 vn : Value} {n1 : Nat} {x1 : List Value} {vv vv' : Value} {n2 n2' : Nat} {x2 x2' : List Value} {w w' : World} {g : Nat} (h : RT B w0 sn0 sk0 vn n1 x1 vv n2 x2 w) (hown : w'.ownsRow B 48 5 vv' n2' x2') (k : w.grownBy w' vv.ownBlock) (hg : vv'.ownBlock = some g) (hat : vv.ownBlock = some g ∨ g = w.heap.size) : RT B w0 sn0 sk0 vn n1 x1 vv' n2' x2' w' := by
  refine ⟨h.own1.kept k ?_, hown, h.at1, ?_, k.os.trans h.os, k.tape.trans h.tape, k.output.trans h.output, Nat.le_trans h.size k.size, fun i hi e1 e2 => ?_, h.base⟩
  · rcases hs : vn.ownBlock with _ | x
    · exact .inl rfl
    · right; intro e; exact own_ne h.own1 h.own2 (by decide) hs e.symm
  · have hz := h.size
    rcases hat with e | e
    · rcases h.at2 with a | a
      · left; rw [hg, ← a, e]
      · right; intro x hx; rw [hg] at hx; injection hx with hx; subst hx; exact a g e
    · right; intro x hx; rw [hg] at hx; injection hx with hx; omega
  · rw [k.block i (by have := h.size; omega) (fun e => ?_)]
    · exact h.low i hi e1 e2
    · rcases h.at2 with a | a
      · exact e2 (e.trans a)
      · have := a i e.symm; omega
theorem RT.lt {B : Nat} {w0 : World} {sn0 sk0 vn : Value} {n1 : Nat} {x1 : List Value} {vv : Value} {n2 : Nat} {x2 : List Value} {w : World} (h : RT B w0 sn0 sk0 vn n1 x1 vv n2 x2 w) : B ≤ w.heap.size := Nat.le_trans h.base h.size
theorem RT.heap {B K : Nat} {kind : Int} {ns : List (List UInt8)} {ks : List Cx.J} {sn sk : Value} {css : List (List Value)} {w0 : World} (t : TB B K kind ns ks sn sk css w0) {vn : Value} {n1 : Nat} {x1 : List Value} {vv : Value} {n2 : Nat} {x2 : List Value} {w : World} (h : RT B w0 sn sk vn n1 x1 vv n2 x2 w) {i : Nat} (hi : i < B) : w.heap[i]? = w0.heap[i]? :=
  h.low i (by have := t.base; omega) (fun e => by have := (t.own1.lt i e.symm).1; omega) (fun e => by have := (t.own2.lt i e.symm).1; omega)
theorem RT.cells {B K : Nat} {kind : Int} {ns : List (List UInt8)} {ks : List Cx.J} {sn sk : Value} {css : List (List Value)} {w0 : World} (t : TB B K kind ns ks sn sk css w0) {vn : Value} {n1 : Nat} {x1 : List Value} {vv : Value} {n2 : Nat} {x2 : List Value} {w : World} (h : RT B w0 sn sk vn n1 x1 vv n2 x2 w) :
    w.cell? ⟨K, 3, none⟩ = some sn ∧ w.cell? ⟨K, 4, none⟩ = some sk ∧ w.frozen? ⟨K, 3, none⟩ = false ∧ w.frozen? ⟨K, 4, none⟩ = false := by
  obtain ⟨_, _, _, c3, c4, cf⟩ := cells5 ((h.heap t t.lt).trans t.box)
  exact ⟨c3, c4, cf 3, cf 4⟩
/-- A block that was laid in between lies there still, behind an append to either row. -/
def KPr (w w' : World) (lo : Nat) : Prop := ∀ k o, w.heap[k]? = some o → lo ≤ k → w'.heap[k]? = some o
theorem KPr.mk {w w' : World} (lo : Nat) (h : ∀ k o, w.heap[k]? = some o → lo ≤ k → w'.heap[k]? = some o) : KPr w w' lo := h
theorem KPr.use {w w' : World} {lo k : Nat} {o : Obj} (h : KPr w w' lo) (hk : w.heap[k]? = some o) (hl : lo ≤ k) : w'.heap[k]? = some o := h k o hk hl
theorem lit_at {w : World} {cs : Array Value} {t : TypeId} {n : Nat} (h : n = w.heap.size) : (w.alloc (.cells cs t)).heap[n]? = some (.cells cs t (0, 0)) := by subst h; exact heap_alloc_new w _
theorem lit_under {w : World} {o : Obj} {cs : Array Value} {t : TypeId} {n : Nat} (h : n = w.heap.size) : ((w.alloc (.cells cs t)).alloc o).heap[n]? = some (.cells cs t (0, 0)) := by
  subst h
  exact (Below.heap_alloc _ _ _ (by simp)).trans (heap_alloc_new w _)
/-- Behind the two stores. -/
theorem RT.fin {B K : Nat} {kind : Int} {ns : List (List UInt8)} {ks : List Cx.J} {sn sk : Value} {css : List (List Value)} {w0 : World} (t : TB B K kind ns ks sn sk css w0) {vn vv : Value} {n : List UInt8} {k : Cx.J} {c : List Value} {w : World} {m1 m2 : Nat}
    (h : RT B w0 sn sk vn m1 (ns.map strV ++ [strV n]) vv m2 (css.flatten ++ c) w) (e1 : m1 = ns.length + 1) (e2 : m2 = ks.length + 1) (hk : JAt w0 (fun g => B ≤ g ∧ some g ≠ sn.ownBlock ∧ some g ≠ sk.ownBlock) k c) :
    TB B K kind (ns ++ [n]) (ks ++ [k]) vn vv (css ++ [c]) ((w.setCell ⟨K, 3, none⟩ vn).setCell ⟨K, 4, none⟩ vv) ∧ FrB B K w0 ((w.setCell ⟨K, 3, none⟩ vn).setCell ⟨K, 4, none⟩ vv) := by
  subst e1 e2
  have hlt := t.lt; have hb := t.base; have hz := h.size
  have hbox := (h.heap t t.lt).trans t.box
  have kset : w.grownBy ((w.setCell ⟨K, 3, none⟩ vn).setCell ⟨K, 4, none⟩ vv) (some K) := ⟨rfl, rfl, rfl, by simp [World.setCell], fun i _ hn => by
    have hi : i ≠ K := by intro e; exact hn (by rw [e])
    rw [Below.heap_setCell _ _ _ _ hi, Below.heap_setCell _ _ _ _ hi]⟩
  have hsize : ((w.setCell ⟨K, 3, none⟩ vn).setCell ⟨K, 4, none⟩ vv).heap.size = w.heap.size := by simp [World.setCell]
  have hskip : ∀ i, i < w0.heap.size → i ≠ K → some i ≠ sn.ownBlock → some i ≠ sk.ownBlock → ((w.setCell ⟨K, 3, none⟩ vn).setCell ⟨K, 4, none⟩ vv).heap[i]? = w0.heap[i]? := fun i hi hn e1 e2 => by
    rw [Below.heap_setCell _ _ _ _ hn, Below.heap_setCell _ _ _ _ hn]; exact h.low i hi e1 e2
  have hnew : ∀ i, i < w0.heap.size → some i ≠ sn.ownBlock → some i ≠ sk.ownBlock → some i ≠ vn.ownBlock ∧ some i ≠ vv.ownBlock := fun i hi e1 e2 => by
    constructor
    · intro e
      rcases h.at1 with a | a
      · exact e1 (e.trans a)
      · have := a i e.symm; omega
    · intro e
      rcases h.at2 with a | a
      · exact e2 (e.trans a)
      · have := a i e.symm; omega
  refine ⟨⟨hlt, by rw [hsize]; omega, ?_, ?_, ?_, ?_⟩, ?_⟩
  · simp [World.setCell, Array.getElem?_modify, hbox]
  · have := h.own1.kept kset (by rcases hs : vn.ownBlock with _ | x
                                 · exact .inl rfl
                                 · right; intro e; injection e with e; have := (h.own1.lt x hs).1; omega)
    simpa using this
  · have := h.own2.kept kset (by rcases hs : vv.ownBlock with _ | x
                                 · exact .inl rfl
                                 · right; intro e; injection e with e; have := (h.own2.lt x hs).1; omega)
    simpa using this
  · refine JsAt.snoc ?_ ?_
    · exact JAt.kept (by rw [hsize]; exact hz) (fun x hx hl => ⟨hskip x hl (by omega) hx.2.1 hx.2.2, hx.1, hnew x hl hx.2.1 hx.2.2⟩) _ _ hk
    · exact JsAt.kept (by rw [hsize]; exact hz) (fun x hx hl => ⟨hskip x hl (by omega) hx.2.1 hx.2.2, hx.1, hnew x hl hx.2.1 hx.2.2⟩) _ _ t.kids
  · refine ⟨h.os, h.tape, h.output, by rw [hsize]; exact hz, fun i hi hn => ?_⟩
    rw [Below.heap_setCell _ _ _ _ hn, Below.heap_setCell _ _ _ _ hn]
    exact h.heap t hi
end Go.Proofs.YtejlddimokmgjaaGreatDoor
