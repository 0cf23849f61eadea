/- JSON VALUES IN MEMORY: a kid of a value, a name of a value; values that a call lets be. No walk. -/
import Derived.Test.YtbdmepilmoomeaaGreatDoorParse
import Derived.Test.YtbdmepilmoomeaaGreatDoorCxFit
namespace Go.Proofs.YtbdmepilmoomeaaGreatDoor
open Go.RowKit

theorem JsAt.kid {w : World} {ok : Nat → Prop} {k : Cx.J} : ∀ {ks : List Cx.J} {css : List (List Value)} {i : Nat}, JsAt w ok ks css → ks[i]? = some k →
    ∃ c0 c1 c2 c3 c4, JAt w ok k [c0, c1, c2, c3, c4] ∧ css.flatten[i * 5]? = some c0 ∧ css.flatten[i * 5 + 1]? = some c1 ∧ css.flatten[i * 5 + 2]? = some c2 ∧ css.flatten[i * 5 + 3]? = some c3 ∧ css.flatten[i * 5 + 4]? = some c4
  | [], _, i, _, hi => by simp at hi
  | k' :: ks, css, i, h, hi => by
    unfold JsAt at h
    obtain ⟨c, cs, rfl, h1, h2⟩ := h
    obtain ⟨x0, x1, x2, x3, x4, rfl⟩ := five h1.length
    cases i with
    | zero =>
      simp only [List.getElem?_cons_zero, Option.some.injEq] at hi
      subst hi
      exact ⟨x0, x1, x2, x3, x4, h1, by simp, by simp, by simp, by simp, by simp⟩
    | succ i =>
      simp only [List.getElem?_cons_succ] at hi
      obtain ⟨c0, c1, c2, c3, c4, hk, e0, e1, e2, e3, e4⟩ := JsAt.kid h2 hi
      refine ⟨c0, c1, c2, c3, c4, hk, ?_, ?_, ?_, ?_, ?_⟩
      all_goals
        rw [List.flatten_cons]
        first
        | (rw [show (i + 1) * 5 = (i * 5) + 5 by omega]; exact e0)
        | (rw [show (i + 1) * 5 + 1 = (i * 5 + 1) + 5 by omega]; exact e1)
        | (rw [show (i + 1) * 5 + 2 = (i * 5 + 2) + 5 by omega]; exact e2)
        | (rw [show (i + 1) * 5 + 3 = (i * 5 + 3) + 5 by omega]; exact e3)
        | (rw [show (i + 1) * 5 + 4 = (i * 5 + 4) + 5 by omega]; exact e4)

/-- The cells of a kid. -/
theorem JAt.kid {w : World} {ok : Nat → Prop} {x : Int} {is : Bool} {t : List UInt8} {ns : List (List UInt8)} {ks : List Cx.J} {x0 x1 x2 x3 x4 : Value} (h : JAt w ok (.mk x is t ns ks) [x0, x1, x2, x3, x4]) {i : Nat} {k : Cx.J} (hi : ks[i]? = some k) :
    ∃ g o cap, x4 = .slice (some ⟨g, o, none⟩) ks.length cap ∧ ok g ∧ g < w.heap.size ∧ ∃ c0 c1 c2 c3 c4, JAt w ok k [c0, c1, c2, c3, c4] ∧
      w.cell? ⟨g, o + i * 5, none⟩ = some c0 ∧ w.cell? ⟨g, o + i * 5 + 1, none⟩ = some c1 ∧ w.cell? ⟨g, o + i * 5 + 2, none⟩ = some c2 ∧ w.cell? ⟨g, o + i * 5 + 3, none⟩ = some c3 ∧ w.cell? ⟨g, o + i * 5 + 4, none⟩ = some c4 := by
  unfold JAt at h
  obtain ⟨sn, sk, hcs, _, css, h1, h2⟩ := h
  injection hcs with e0 hcs; injection hcs with e1 hcs; injection hcs with e2 hcs; injection hcs with e3 hcs; injection hcs with e4 hcs
  subst e4
  rcases h2 with ⟨hz, _⟩ | ⟨_, g, o, cap, hv, _, hg, hl, hc⟩
  · rw [List.length_eq_zero_iff.1 hz] at hi; simp at hi
  · obtain ⟨c0, c1, c2, c3, c4, hk, f0, f1, f2, f3, f4⟩ := h1.kid hi
    exact ⟨g, o, cap, hv, hg, hl, c0, c1, c2, c3, c4, hk, hc _ _ f0, hc _ _ f1, hc _ _ f2, hc _ _ f3, hc _ _ f4⟩

/-- The shapes of a value's five cells, with what they hold. -/
theorem JAt.shape {w : World} {ok : Nat → Prop} {x : Int} {is : Bool} {t : List UInt8} {ns : List (List UInt8)} {ks : List Cx.J} {cs : List Value} (h : JAt w ok (.mk x is t ns ks) cs) :
    ∃ a nc a' kc, cs = [.int .i64 x, .bool is, .string ⟨t.toArray⟩, .slice a ns.length nc, .slice a' ks.length kc] := by
  unfold JAt at h
  obtain ⟨sn, sk, rfl, h1, css, _, h2⟩ := h
  have hs1 : ∃ a c, sn = .slice a ns.length c := by
    rcases h1 with ⟨hz, _, a, c, hv⟩ | ⟨_, g, o, c, hv, _⟩
    · exact ⟨a, c, by rw [hv, hz]⟩
    · exact ⟨_, c, hv⟩
  have hs2 : ∃ a c, sk = .slice a ks.length c := by
    rcases h2 with ⟨hz, _, a, c, hv⟩ | ⟨_, g, o, c, hv, _⟩
    · exact ⟨a, c, by rw [hv, hz]⟩
    · exact ⟨_, c, hv⟩
  obtain ⟨a, c, rfl⟩ := hs1
  obtain ⟨a', c', rfl⟩ := hs2
  exact ⟨a, c, a', c', rfl⟩

/-- The cells of a kid, with their shapes. -/
theorem JAt.kid' {w : World} {ok : Nat → Prop} {x : Int} {is : Bool} {t : List UInt8} {ns : List (List UInt8)} {ks : List Cx.J} {x0 x1 x2 x3 x4 : Value} (h : JAt w ok (.mk x is t ns ks) [x0, x1, x2, x3, x4]) {i : Nat} {k : Cx.J} (hi : ks[i]? = some k) :
    ∃ g o cap, x4 = .slice (some ⟨g, o, none⟩) ks.length cap ∧ ok g ∧ g < w.heap.size ∧ ∃ b nb b' kb, JAt w ok k [.int .i64 k.kind, .bool k.is, .string ⟨k.text.toArray⟩, .slice b k.names.length nb, .slice b' k.kids.length kb] ∧
      w.cell? ⟨g, o + i * 5, none⟩ = some (.int .i64 k.kind) ∧ w.cell? ⟨g, o + i * 5 + 1, none⟩ = some (.bool k.is) ∧ w.cell? ⟨g, o + i * 5 + 2, none⟩ = some (.string ⟨k.text.toArray⟩) ∧ w.cell? ⟨g, o + i * 5 + 3, none⟩ = some (.slice b k.names.length nb) ∧ w.cell? ⟨g, o + i * 5 + 4, none⟩ = some (.slice b' k.kids.length kb) := by
  obtain ⟨g, o, cap, hv, hg, hl, c0, c1, c2, c3, c4, hk, d0, d1, d2, d3, d4⟩ := h.kid hi
  cases k with
  | mk y is' t' ns' ks' =>
    obtain ⟨b, nb, b', kb, hcs⟩ := hk.shape
    rw [hcs] at hk
    injection hcs with e0 hcs; injection hcs with e1 hcs; injection hcs with e2 hcs; injection hcs with e3 hcs; injection hcs with e4 hcs
    subst e0 e1 e2 e3 e4
    exact ⟨g, o, cap, hv, hg, hl, b, nb, b', kb, hk, d0, d1, d2, d3, d4⟩

/-- What lies below a block number stays where only later blocks turn. -/
theorem JAt.below {B : Nat} {w w' : World} {v : Cx.J} {cs : List Value} (h : JAt w (fun g => g < B) v cs) (k : Below B w w') : JAt w' (fun g => g < B) v cs :=
  JAt.kept k.size (fun g hg _ => ⟨k.block g hg, hg⟩) _ _ h
theorem JAt.all {w : World} {ok : Nat → Prop} {v : Cx.J} {cs : List Value} (h : JAt w ok v cs) : JAt w (fun g => g < w.heap.size) v cs :=
  JAt.kept (Nat.le_refl _) (fun _ _ hl => ⟨rfl, hl⟩) _ _ h
theorem Row.below {B : Nat} {w w' : World} {v : Value} {n : Nat} {xs : List Value} (h : Row w (fun g => g < B) v n xs) (k : Below B w w') : Row w' (fun g => g < B) v n xs :=
  h.kept k.size (fun g hg _ => ⟨k.block g hg, hg⟩)

theorem nodesK_get {ks : List Cx.J} {i : Nat} {k : Cx.J} (h : ks[i]? = some k) : Cx.nodesK (ks.take (i + 1)) = Cx.nodesK (ks.take i) + Cx.nodes k ∧ Cx.nodesK (ks.take i) + Cx.nodes k ≤ Cx.nodesK ks := by
  induction ks generalizing i with
  | nil => simp at h
  | cons a ks ih =>
    cases i with
    | zero =>
      simp only [List.getElem?_cons_zero, Option.some.injEq] at h
      subst h
      simp [Cx.nodesK]
    | succ i =>
      simp only [List.getElem?_cons_succ] at h
      have := ih h
      simp only [List.take_succ_cons, Cx.nodesK]
      omega
/-- All texts and lists are at most so long. -/
abbrev fit (L : Nat) (v : Cx.J) : Prop := Cx.fit L v
abbrev fitK (L : Nat) (ks : List Cx.J) : Prop := Cx.fitK L ks
theorem fitK_get {L : Nat} : ∀ {ks : List Cx.J} {i : Nat} {k : Cx.J}, fitK L ks → ks[i]? = some k → fit L k
  | [], _, _, _, h => by simp at h
  | a :: ks, i, k, hf, h => by
    unfold fitK Cx.fitK at hf
    cases i with
    | zero => simp only [List.getElem?_cons_zero, Option.some.injEq] at h; subst h; exact hf.1
    | succ i => simp only [List.getElem?_cons_succ] at h; exact fitK_get hf.2 h

theorem nodes_pos (v : Cx.J) : 0 < Cx.nodes v := by cases v; simp [Cx.nodes]; omega
end Go.Proofs.YtbdmepilmoomeaaGreatDoor
