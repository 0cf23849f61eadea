/- JSON VALUES IN MEMORY: what it means that five cells hold a value; when it stays so. No walk. -/
import Derived.Test.YtbdmepilmoomeaaGreatDoorTxt
namespace Go.Proofs.YtbdmepilmoomeaaGreatDoor
open Go.RowKit

/-- A slice value whose elements' cells are xs, in a block that the second argument lets be. -/
def Row (w : World) (ok : Nat → Prop) (v : Value) (n : Nat) (xs : List Value) : Prop :=
  (n = 0 ∧ xs = [] ∧ ∃ a cap, v = .slice a 0 cap) ∨ (0 < n ∧ ∃ g o cap, v = .slice (some ⟨g, o, none⟩) n cap ∧ n ≤ cap ∧ ok g ∧ g < w.heap.size ∧ ∀ j u, xs[j]? = some u → w.cell? ⟨g, o + j, none⟩ = some u)

def strV (t : List UInt8) : Value := .string ⟨t.toArray⟩

mutual
/-- Five cells hold a value, whose lists lie in blocks that the second argument lets be. -/
def JAt (w : World) (ok : Nat → Prop) : Cx.J → List Value → Prop
  | .mk k is t ns ks, cs => ∃ sn sk : Value, cs = [.int .i64 k, .bool is, strV t, sn, sk] ∧ Row w ok sn ns.length (ns.map strV) ∧ ∃ css : List (List Value), JsAt w ok ks css ∧ Row w ok sk ks.length css.flatten
def JsAt (w : World) (ok : Nat → Prop) : List Cx.J → List (List Value) → Prop
  | [], css => css = []
  | k :: ks, css => ∃ c cs, css = c :: cs ∧ JAt w ok k c ∧ JsAt w ok ks cs
end

theorem Row.kept {w w' : World} {ok ok' : Nat → Prop} {v : Value} {n : Nat} {xs : List Value} (h : Row w ok v n xs) (hs : w.heap.size ≤ w'.heap.size) (hk : ∀ g, ok g → g < w.heap.size → w'.heap[g]? = w.heap[g]? ∧ ok' g) : Row w' ok' v n xs := by
  rcases h with h | ⟨hn, g, o, cap, hv, hnc, hg, hl, hc⟩
  · exact .inl h
  · exact .inr ⟨hn, g, o, cap, hv, hnc, (hk g hg hl).2, by omega, fun j u hu => (World.cell?_of_block (w := w) (hk g hg hl).1).trans (hc j u hu)⟩
mutual
theorem JAt.kept {w w' : World} {ok ok' : Nat → Prop} (hs : w.heap.size ≤ w'.heap.size) (hk : ∀ g, ok g → g < w.heap.size → w'.heap[g]? = w.heap[g]? ∧ ok' g) : ∀ (v : Cx.J) (cs : List Value), JAt w ok v cs → JAt w' ok' v cs
  | .mk k is t ns ks, cs, h => by
    unfold JAt at h ⊢
    obtain ⟨sn, sk, rfl, h1, css, h2, h3⟩ := h
    exact ⟨sn, sk, rfl, h1.kept hs hk, css, JsAt.kept hs hk ks css h2, h3.kept hs hk⟩
theorem JsAt.kept {w w' : World} {ok ok' : Nat → Prop} (hs : w.heap.size ≤ w'.heap.size) (hk : ∀ g, ok g → g < w.heap.size → w'.heap[g]? = w.heap[g]? ∧ ok' g) : ∀ (ks : List Cx.J) (css : List (List Value)), JsAt w ok ks css → JsAt w' ok' ks css
  | [], css, h => by unfold JsAt at h ⊢; exact h
  | k :: ks, css, h => by
    unfold JsAt at h ⊢
    obtain ⟨c, cs, rfl, h1, h2⟩ := h
    exact ⟨c, cs, rfl, JAt.kept hs hk k c h1, JsAt.kept hs hk ks cs h2⟩
end
theorem JAt.length {w : World} {ok : Nat → Prop} {v : Cx.J} {cs : List Value} (h : JAt w ok v cs) : cs.length = 5 := by
  obtain ⟨k, is, t, ns, ks⟩ := v
  unfold JAt at h
  obtain ⟨_, _, rfl, _⟩ := h; rfl
theorem JsAt.length {w : World} {ok : Nat → Prop} : ∀ {ks : List Cx.J} {css : List (List Value)}, JsAt w ok ks css → css.length = ks.length ∧ css.flatten.length = 5 * ks.length
  | [], css, h => by unfold JsAt at h; subst h; exact ⟨rfl, rfl⟩
  | k :: ks, css, h => by
    unfold JsAt at h
    obtain ⟨c, cs, rfl, h1, h2⟩ := h
    have := JsAt.length h2; have := h1.length
    simp only [List.length_cons, List.flatten_cons, List.length_append]; omega
theorem JsAt.snoc {w : World} {ok : Nat → Prop} {k : Cx.J} {c : List Value} (hc : JAt w ok k c) : ∀ {ks : List Cx.J} {css : List (List Value)}, JsAt w ok ks css → JsAt w ok (ks ++ [k]) (css ++ [c])
  | [], css, h => by
    unfold JsAt at h; subst h
    show JsAt w ok [k] [c]
    unfold JsAt; exact ⟨c, [], rfl, hc, by unfold JsAt; rfl⟩
  | k' :: ks, css, h => by
    unfold JsAt at h
    obtain ⟨c', cs, rfl, h1, h2⟩ := h
    show JsAt w ok (k' :: (ks ++ [k])) (c' :: (cs ++ [c]))
    unfold JsAt; exact ⟨c', cs ++ [c], rfl, h1, JsAt.snoc hc h2⟩
/-- Each cell of a value is one cell. -/
theorem JAt.one {w : World} {ok : Nat → Prop} {v : Cx.J} {cs : List Value} (h : JAt w ok v cs) : ∀ u ∈ cs, u.oneCell' = true := by
  obtain ⟨k, is, t, ns, ks⟩ := v
  unfold JAt at h
  obtain ⟨sn, sk, rfl, h1, css, _, h3⟩ := h
  have hr : ∀ {v : Value} {n : Nat} {xs : List Value}, Row w ok v n xs → v.oneCell' = true := by
    intro v n xs h
    rcases h with ⟨_, _, a, cap, rfl⟩ | ⟨_, g, o, cap, rfl, _⟩ <;> rfl
  intro u hu
  simp only [List.mem_cons, List.not_mem_nil, or_false] at hu
  rcases hu with rfl | rfl | rfl | rfl | rfl
  · rfl
  · rfl
  · rfl
  · exact hr h1
  · exact hr h3
/-- A value without names and kids. -/
theorem JAt.plain {w : World} {ok : Nat → Prop} {k : Int} {is : Bool} {t : List UInt8} : JAt w ok (.mk k is t [] []) [.int .i64 k, .bool is, strV t, .slice none 0 0, .slice none 0 0] := by
  unfold JAt
  exact ⟨_, _, rfl, .inl ⟨rfl, rfl, _, _, rfl⟩, [], by unfold JsAt; rfl, .inl ⟨rfl, rfl, _, _, rfl⟩⟩
end Go.Proofs.YtbdmepilmoomeaaGreatDoor
