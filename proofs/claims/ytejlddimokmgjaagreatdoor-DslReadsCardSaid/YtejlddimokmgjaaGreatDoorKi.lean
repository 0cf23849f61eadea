/- QUERIES IN MEMORY: what it means that five cells hold a query; when it stays so. No walk. WALKS: the law's helpers: same, sameLists. WALKS: Get, that keeps the blocks of the value. WALKS: only: has an object no names but some? WALKS: single: an object's one name and value. WALKS: text: the text of a name. WALKS: op: a line's op. QUERIES THAT ARE GATHERED in memory, beside a box of one cell that is written. No walk. -/
import Derived.Test.YtejlddimokmgjaaGreatDoorKf
import Derived.Test.YtejlddimokmgjaaGreatDoorKc
import Derived.StillTailTactics
import Derived.Test.YtejlddimokmgjaaGreatDoorKh
import Derived.Deep.AppendLies
namespace Go.Proofs.YtejlddimokmgjaaGreatDoor
open Go.RowKit

mutual
/-- Five cells hold a query, whose lists lie in blocks that the second argument lets be. -/
def QyAt (w : World) (ok : Nat → Prop) : Dx.Qy → List Value → Prop
  | .mk k t a b c, cs => ∃ sa sb sc : Value, cs = [.int .i64 k, strV t, sa, sb, sc] ∧ (∃ ca : List (List Value), QysAt w ok a ca ∧ Row w ok sa a.length ca.flatten) ∧ (∃ cb : List (List Value), QysAt w ok b cb ∧ Row w ok sb b.length cb.flatten) ∧ (∃ cc : List (List Value), QysAt w ok c cc ∧ Row w ok sc c.length cc.flatten)
def QysAt (w : World) (ok : Nat → Prop) : List Dx.Qy → List (List Value) → Prop
  | [], css => css = []
  | q :: qs, css => ∃ c cs, css = c :: cs ∧ QyAt w ok q c ∧ QysAt w ok qs cs
end
mutual
theorem QyAt.kept {w w' : World} {ok ok' : Nat → Prop} (hs : w.heap.size ≤ w'.heap.size) (hk : ∀ g, ok g → g < w.heap.size → w'.heap[g]? = w.heap[g]? ∧ ok' g) : ∀ (q : Dx.Qy) (cs : List Value), QyAt w ok q cs → QyAt w' ok' q cs
  | .mk k t a b c, cs, h => by
    unfold QyAt at h ⊢
    obtain ⟨sa, sb, sc, rfl, ⟨ca, h1, r1⟩, ⟨cb, h2, r2⟩, ⟨cc, h3, r3⟩⟩ := h
    exact ⟨sa, sb, sc, rfl, ⟨ca, QysAt.kept hs hk a ca h1, r1.kept hs hk⟩, ⟨cb, QysAt.kept hs hk b cb h2, r2.kept hs hk⟩, ⟨cc, QysAt.kept hs hk c cc h3, r3.kept hs hk⟩⟩
theorem QysAt.kept {w w' : World} {ok ok' : Nat → Prop} (hs : w.heap.size ≤ w'.heap.size) (hk : ∀ g, ok g → g < w.heap.size → w'.heap[g]? = w.heap[g]? ∧ ok' g) : ∀ (qs : List Dx.Qy) (css : List (List Value)), QysAt w ok qs css → QysAt w' ok' qs css
  | [], css, h => by unfold QysAt at h ⊢; exact h
  | q :: qs, css, h => by
    unfold QysAt at h ⊢
    obtain ⟨c, cs, rfl, h1, h2⟩ := h
    exact ⟨c, cs, rfl, QyAt.kept hs hk q c h1, QysAt.kept hs hk qs cs h2⟩
end
theorem QyAt.length {w : World} {ok : Nat → Prop} {q : Dx.Qy} {cs : List Value} (h : QyAt w ok q cs) : cs.length = 5 := by
  obtain ⟨k, t, a, b, c⟩ := q
  unfold QyAt at h
  obtain ⟨_, _, _, rfl, _⟩ := h; rfl
theorem QysAt.length {w : World} {ok : Nat → Prop} : ∀ {qs : List Dx.Qy} {css : List (List Value)}, QysAt w ok qs css → css.length = qs.length ∧ css.flatten.length = 5 * qs.length
  | [], css, h => by unfold QysAt at h; subst h; exact ⟨rfl, rfl⟩
  | q :: qs, css, h => by
    unfold QysAt at h
    obtain ⟨c, cs, rfl, h1, h2⟩ := h
    have := QysAt.length h2; have := h1.length
    simp only [List.length_cons, List.flatten_cons, List.length_append]; omega
theorem QysAt.snoc {w : World} {ok : Nat → Prop} {q : Dx.Qy} {c : List Value} (hc : QyAt w ok q c) : ∀ {qs : List Dx.Qy} {css : List (List Value)}, QysAt w ok qs css → QysAt w ok (qs ++ [q]) (css ++ [c])
  | [], css, h => by
    unfold QysAt at h; subst h
    show QysAt w ok [q] [c]
    unfold QysAt; exact ⟨c, [], rfl, hc, by unfold QysAt; rfl⟩
  | q' :: qs, css, h => by
    unfold QysAt at h
    obtain ⟨c', cs, rfl, h1, h2⟩ := h
    show QysAt w ok (q' :: (qs ++ [q])) (c' :: (cs ++ [c]))
    unfold QysAt; exact ⟨c', cs ++ [c], rfl, h1, QysAt.snoc hc h2⟩
theorem Row.one {w : World} {ok : Nat → Prop} {v : Value} {n : Nat} {xs : List Value} (h : Row w ok v n xs) : v.oneCell' = true := by
  rcases h with ⟨_, _, a, cap, rfl⟩ | ⟨_, g, o, cap, rfl, _⟩ <;> rfl
/-- Each cell of a query is one cell. -/
theorem QyAt.one {w : World} {ok : Nat → Prop} {q : Dx.Qy} {cs : List Value} (h : QyAt w ok q cs) : ∀ u ∈ cs, u.oneCell' = true := by
  obtain ⟨k, t, a, b, c⟩ := q
  unfold QyAt at h
  obtain ⟨sa, sb, sc, rfl, ⟨ca, _, r1⟩, ⟨cb, _, r2⟩, ⟨cc, _, r3⟩⟩ := h
  intro u hu
  simp only [List.mem_cons, List.not_mem_nil, or_false] at hu
  rcases hu with rfl | rfl | rfl | rfl | rfl
  · rfl
  · rfl
  · exact r1.one
  · exact r2.one
  · exact r3.one
/-- A query without lists. -/
theorem QyAt.plain {w : World} {ok : Nat → Prop} {k : Int} {t : List UInt8} : QyAt w ok (.mk k t [] [] []) [.int .i64 k, .string ⟨t.toArray⟩, .slice none 0 0, .slice none 0 0, .slice none 0 0] := by
  unfold QyAt
  exact ⟨_, _, _, rfl, ⟨[], by unfold QysAt; rfl, .inl ⟨rfl, rfl, _, _, rfl⟩⟩, ⟨[], by unfold QysAt; rfl, .inl ⟨rfl, rfl, _, _, rfl⟩⟩, ⟨[], by unfold QysAt; rfl, .inl ⟨rfl, rfl, _, _, rfl⟩⟩⟩
theorem QysAt.kid {w : World} {ok : Nat → Prop} {q : Dx.Qy} : ∀ {qs : List Dx.Qy} {css : List (List Value)} {i : Nat}, QysAt w ok qs css → qs[i]? = some q →
    ∃ c0 c1 c2 c3 c4, QyAt w ok q [c0, c1, c2, c3, c4] ∧ css.flatten[i * 5]? = some c0 ∧ css.flatten[i * 5 + 1]? = some c1 ∧ css.flatten[i * 5 + 2]? = some c2 ∧ css.flatten[i * 5 + 3]? = some c3 ∧ css.flatten[i * 5 + 4]? = some c4
  | [], _, i, _, hi => by simp at hi
  | q' :: qs, css, i, h, hi => by
    unfold QysAt at h
    obtain ⟨c, cs, rfl, h1, h2⟩ := h
    obtain ⟨x0, x1, x2, x3, x4, rfl⟩ := five h1.length
    cases i with
    | zero =>
      simp only [List.getElem?_cons_zero, Option.some.injEq] at hi
      subst hi
      exact ⟨x0, x1, x2, x3, x4, h1, by simp, by simp, by simp, by simp, by simp⟩
    | succ i =>
      simp only [List.getElem?_cons_succ] at hi
      obtain ⟨c0, c1, c2, c3, c4, hk, e0, e1, e2, e3, e4⟩ := QysAt.kid h2 hi
      refine ⟨c0, c1, c2, c3, c4, hk, ?_, ?_, ?_, ?_, ?_⟩
      all_goals
        rw [List.flatten_cons]
        first
        | (rw [show (i + 1) * 5 = (i * 5) + 5 by omega]; exact e0)
        | (rw [show (i + 1) * 5 + 1 = (i * 5 + 1) + 5 by omega]; exact e1)
        | (rw [show (i + 1) * 5 + 2 = (i * 5 + 2) + 5 by omega]; exact e2)
        | (rw [show (i + 1) * 5 + 3 = (i * 5 + 3) + 5 by omega]; exact e3)
        | (rw [show (i + 1) * 5 + 4 = (i * 5 + 4) + 5 by omega]; exact e4)
/-- A row of queries. -/
def QRow (w : World) (ok : Nat → Prop) (v : Value) (qs : List Dx.Qy) : Prop := ∃ css : List (List Value), QysAt w ok qs css ∧ Row w ok v qs.length css.flatten
theorem QyAt.rows {w : World} {ok : Nat → Prop} {k : Int} {t : List UInt8} {a b c : List Dx.Qy} {cs : List Value} (h : QyAt w ok (.mk k t a b c) cs) : ∃ sa sb sc, cs = [.int .i64 k, .string ⟨t.toArray⟩, sa, sb, sc] ∧ QRow w ok sa a ∧ QRow w ok sb b ∧ QRow w ok sc c := by
  unfold QyAt at h
  obtain ⟨sa, sb, sc, e, h1, h2, h3⟩ := h
  exact ⟨sa, sb, sc, e, h1, h2, h3⟩
theorem QyAt.of_rows {w : World} {ok : Nat → Prop} {k : Int} {t : List UInt8} {a b c : List Dx.Qy} {sa sb sc : Value} (h1 : QRow w ok sa a) (h2 : QRow w ok sb b) (h3 : QRow w ok sc c) : QyAt w ok (.mk k t a b c) [.int .i64 k, .string ⟨t.toArray⟩, sa, sb, sc] := by
  unfold QyAt
  exact ⟨sa, sb, sc, rfl, h1, h2, h3⟩
theorem QRow.kept {w w' : World} {ok ok' : Nat → Prop} {v : Value} {qs : List Dx.Qy} (h : QRow w ok v qs) (hs : w.heap.size ≤ w'.heap.size) (hk : ∀ g, ok g → g < w.heap.size → w'.heap[g]? = w.heap[g]? ∧ ok' g) : QRow w' ok' v qs := by
  obtain ⟨css, h1, h2⟩ := h
  exact ⟨css, QysAt.kept hs hk qs css h1, h2.kept hs hk⟩
theorem QRow.shape {w : World} {ok : Nat → Prop} {v : Value} {qs : List Dx.Qy} (h : QRow w ok v qs) : ∃ a c, v = .slice a qs.length c := by
  obtain ⟨css, _, h2⟩ := h
  rcases h2 with ⟨hz, _, a, c, hv⟩ | ⟨_, g, o, c, hv, _⟩
  · exact ⟨a, c, by rw [hv, hz]⟩
  · exact ⟨_, c, hv⟩
/-- The cells of an element. -/
theorem QRow.kid {w : World} {ok : Nat → Prop} {a : Option Addr} {c : Nat} {qs : List Dx.Qy} (h : QRow w ok (.slice a qs.length c) qs) {i : Nat} {q : Dx.Qy} (hi : qs[i]? = some q) :
    ∃ g o, a = some ⟨g, o, none⟩ ∧ ok g ∧ g < w.heap.size ∧ ∃ c0 c1 c2 c3 c4, QyAt w ok q [c0, c1, c2, c3, c4] ∧
      w.cell? ⟨g, o + i * 5, none⟩ = some c0 ∧ w.cell? ⟨g, o + i * 5 + 1, none⟩ = some c1 ∧ w.cell? ⟨g, o + i * 5 + 2, none⟩ = some c2 ∧ w.cell? ⟨g, o + i * 5 + 3, none⟩ = some c3 ∧ w.cell? ⟨g, o + i * 5 + 4, none⟩ = some c4 := by
  obtain ⟨css, h1, h2⟩ := h
  rcases h2 with ⟨hz, _⟩ | ⟨_, g, o, cap, hv, _, hg, hl, hc⟩
  · rw [List.length_eq_zero_iff.1 hz] at hi; simp at hi
  · injection hv with ha _ _
    obtain ⟨c0, c1, c2, c3, c4, hk, f0, f1, f2, f3, f4⟩ := h1.kid hi
    exact ⟨g, o, ha, hg, hl, c0, c1, c2, c3, c4, hk, hc _ _ f0, hc _ _ f1, hc _ _ f2, hc _ _ f3, hc _ _ f4⟩
end Go.Proofs.YtejlddimokmgjaaGreatDoor
namespace Go.Proofs.YtejlddimokmgjaaGreatDoor
open Go.RowKit

/-- What 'same' answers, of queries; of lists of them. -/
def SameQ (a b : Dx.Qy) (w : World) (e : Ending) (w' : World) : Prop := ∃ r : Bool, e = .returned (.bool r) ∧ (r = true ↔ a = b) ∧ Below w.heap.size w w'
def SameQs (a b : List Dx.Qy) (w : World) (e : Ending) (w' : World) : Prop := ∃ r : Bool, e = .returned (.bool r) ∧ (r = true ↔ a = b) ∧ Below w.heap.size w w'

theorem count_pos (q : Dx.Qy) : 0 < Dx.count q := by cases q; simp [Dx.count]; omega
theorem countK_get {q : Dx.Qy} : ∀ {qs : List Dx.Qy} {i : Nat}, qs[i]? = some q → Dx.count q ≤ Dx.countK qs
  | [], _, h => by simp at h
  | a :: qs, i, h => by
    simp only [Dx.countK]
    cases i with
    | zero => simp only [List.getElem?_cons_zero, Option.some.injEq] at h; subst h; omega
    | succ i => simp only [List.getElem?_cons_succ] at h; have := countK_get h; omega
theorem countK_len : ∀ (qs : List Dx.Qy), qs.length ≤ Dx.countK qs
  | [] => Nat.le_refl _
  | a :: qs => by have := countK_len qs; have := count_pos a; simp only [Dx.countK, List.length_cons]; omega
theorem takeQ_eq {α : Type} {l m : List α} {i : Nat} {x y : α} (h : l.take i = m.take i) (hx : l[i]? = some x) (hy : m[i]? = some y) (e : x = y) : l.take (i + 1) = m.take (i + 1) := by
  rw [List.take_add_one, List.take_add_one, h, hx, hy, e]
theorem QyAt.below {B : Nat} {w w' : World} {q : Dx.Qy} {cs : List Value} (h : QyAt w (fun g => g < B) q cs) (k : Below B w w') : QyAt w' (fun g => g < B) q cs :=
  QyAt.kept k.size (fun g hg _ => ⟨k.block g hg, hg⟩) _ _ h
theorem QyAt.all {w : World} {ok : Nat → Prop} {q : Dx.Qy} {cs : List Value} (h : QyAt w ok q cs) : QyAt w (fun g => g < w.heap.size) q cs :=
  QyAt.kept (Nat.le_refl _) (fun _ _ hl => ⟨rfl, hl⟩) _ _ h
theorem QRow.below {B : Nat} {w w' : World} {v : Value} {qs : List Dx.Qy} (h : QRow w (fun g => g < B) v qs) (k : Below B w w') : QRow w' (fun g => g < B) v qs :=
  h.kept k.size (fun g hg _ => ⟨k.block g hg, hg⟩)
theorem QRow.all {w : World} {ok : Nat → Prop} {v : Value} {qs : List Dx.Qy} (h : QRow w ok v qs) : QRow w (fun g => g < w.heap.size) v qs :=
  h.kept (Nat.le_refl _) (fun _ _ hl => ⟨rfl, hl⟩)

set_option maxRecDepth 100000 in
set_option maxHeartbeats 2000000 in
theorem sameL_step (N : Nat) (ih : ∀ (u v : Dx.Qy) (cs ds : List Value) (w : World) (ok : Nat → Prop), Dx.count u ≤ N → Dx.count u ≤ 1000000 → QyAt w ok u cs → QyAt w ok v ds →
      Calls Tryz.prog 18 #[.agg cs.toArray, .agg ds.toArray] w (SameQ u v w))
    (qs rs : List Dx.Qy) (sa sb : Value) (w : World) (ok : Nat → Prop) (hN : Dx.countK qs ≤ N) (hM : Dx.countK qs ≤ 1000000) (hq : QRow w ok sa qs) (hr : QRow w ok sb rs) :
    Calls Tryz.prog 45 #[sa, sb] w (SameQs qs rs w) := by
  obtain ⟨a, c, rfl⟩ := hq.shape
  obtain ⟨a', c', rfl⟩ := hr.shape
  have hl : qs.length ≤ 1000000 := Nat.le_trans (countK_len qs) hM
  have IH := Lib.hid ih; have Q := Lib.hid hq.all; have R := Lib.hid hr.all; have HN := Lib.hid hN; have HM := Lib.hid hM
  clear ih hq hr hN hM
  by_cases hn : qs.length = rs.length
  rotate_left
  · have NE := Lib.hid (show ¬ (qs = rs) from fun h => hn (by rw [h]))
    have hne : ((qs.length : Int) != (rs.length : Int)) = true := by rw [bne_iff_ne]; omega
    go_enter Tryz.func45, Tryz.ntmps45
    go_wp2_with fail
    go_ret
    exact ⟨false, rfl, ⟨(fun h => by cases h), fun h => absurd h NE.out⟩, Below.refl _ w⟩
  have hne : ((qs.length : Int) != (rs.length : Int)) = false := by rw [hn]; simp
  have HNN := Lib.hid hn
  clear hn
  go_enter Tryz.func45, Tryz.ntmps45
  go_wp2_with fail
  go_loopg [5] (qs.length) (fun q z wr => ∃ (i : Nat), z = .int .i64 i ∧ q = qs.length - i ∧ i ≤ qs.length ∧ Hid (qs.take i = rs.take i) ∧ Hid (Below w.heap.size w wr))
  case atStart => exact ⟨0, rfl, rfl, Nat.zero_le _, Lib.hid rfl, Lib.hid (Below.refl _ w)⟩
  case round =>
    obtain ⟨i, rfl, hq, hi, hks, hb⟩ := hrel
    have HQ := Lib.hid hq
    clear hq
    rcases Nat.lt_or_ge i qs.length with hlt | hge
    · have hlt2 : i < rs.length := by rw [← HNN.out]; exact hlt
      obtain ⟨k, hk⟩ : ∃ k, qs[i]? = some k := ⟨qs[i], by simp [hlt]⟩
      obtain ⟨k', hk'⟩ : ∃ k', rs[i]? = some k' := ⟨rs[i], by simp [hlt2]⟩
      obtain ⟨g, o, ha, _, hgl, x0, x1, x2, x3, x4, hkj, e0, e1, e2, e3, e4⟩ := Q.out.kid hk
      obtain ⟨g', o', ha', _, hgl', y0, y1, y2, y3, y4, hkj', f0, f1, f2, f3, f4⟩ := R.out.kid hk'
      subst ha ha'
      have b0 := (hb.out.cell (p := ⟨g, o + i * 5, none⟩) hgl).trans e0
      have b1 := (hb.out.cell (p := ⟨g, o + i * 5 + 1, none⟩) hgl).trans e1
      have b2 := (hb.out.cell (p := ⟨g, o + i * 5 + 2, none⟩) hgl).trans e2
      have b3 := (hb.out.cell (p := ⟨g, o + i * 5 + 3, none⟩) hgl).trans e3
      have b4 := (hb.out.cell (p := ⟨g, o + i * 5 + 4, none⟩) hgl).trans e4
      have c0 := (hb.out.cell (p := ⟨g', o' + i * 5, none⟩) hgl').trans f0
      have c1 := (hb.out.cell (p := ⟨g', o' + i * 5 + 1, none⟩) hgl').trans f1
      have c2 := (hb.out.cell (p := ⟨g', o' + i * 5 + 2, none⟩) hgl').trans f2
      have c3 := (hb.out.cell (p := ⟨g', o' + i * 5 + 3, none⟩) hgl').trans f3
      have c4 := (hb.out.cell (p := ⟨g', o' + i * 5 + 4, none⟩) hgl').trans f4
      have KJ := Lib.hid hkj; have HK := Lib.hid hk; have KI := Lib.hid hkj'; have HK2 := Lib.hid hk'
      have hltI : decide ((i : Int) < (qs.length : Int)) = true := by simp; omega
      have hltA : (i : Int) < (qs.length : Int) := by omega
      have hltB : (i : Int) < (rs.length : Int) := by omega
      clear hkj e0 e1 e2 e3 e4 hk hkj' hk' f0 f1 f2 f3 f4
      go_wp2_with fail
      go_still_tail 8, (by kernel_rfl)
      change wpList _ _ _ _ _ wr.drew
      go_wp2_with fail
      have hb2 : Below w.heap.size w wr.drew := hb.out.drew
      refine (IH.out k k' [x0, x1, x2, x3, x4] [y0, y1, y2, y3, y4] _ _ (by have := HN.out; have := countK_get HK.out; omega) (by have := HM.out; have := countK_get HK.out; omega) (KJ.out.below hb2) (KI.out.below hb2)).mono ?_
      rintro e w5 ⟨r, rfl, hr, hb5⟩
      have HB5 := Lib.hid (hb2.trans (hb5.mono hb2.size))
      have HR := Lib.hid hr
      clear hb5 hb2 hr b0 b1 b2 b3 b4 c0 c1 c2 c3 c4
      cases r with
      | false =>
        have NE := Lib.hid (show ¬ (qs = rs) from fun h => by
          have h1 := HK.out; have h2 := HK2.out
          rw [h, h2] at h1
          injection h1 with h1
          have := HR.out.2 h1.symm
          cases this)
        clear HR
        go_wp2_with fail
        go_ret
        exact ⟨false, rfl, ⟨(fun h => by cases h), fun h => absurd h NE.out⟩, HB5.out⟩
      | true =>
        have HR2 := Lib.hid (HR.out.1 rfl)
        clear HR
        go_wp2_with fail
        go_roundg (qs.length - (i + 1))
        case measure => have := HQ.out; omega
        case rel => exact ⟨i + 1, by go_num, rfl, by omega, Lib.hid (takeQ_eq hks.out HK.out HK2.out HR2.out), HB5⟩
    · have hik : i = qs.length := by omega
      subst hik
      have hltI : decide ((qs.length : Int) < (qs.length : Int)) = false := by simp
      have HKS : Hid (qs = rs) := Lib.hid (by have := hks.out; rw [List.take_length, HNN.out, List.take_length] at this; exact this)
      go_wp2_with fail
      go_ret
      exact ⟨true, rfl, ⟨fun _ => HKS.out, fun _ => rfl⟩, hb.out⟩

set_option maxRecDepth 100000 in
set_option maxHeartbeats 2000000 in
theorem sameQ_step (N : Nat) (ih : ∀ (qs rs : List Dx.Qy) (sa sb : Value) (w : World) (ok : Nat → Prop), Dx.countK qs ≤ N → Dx.countK qs ≤ 1000000 → QRow w ok sa qs → QRow w ok sb rs →
      Calls Tryz.prog 45 #[sa, sb] w (SameQs qs rs w))
    (u v : Dx.Qy) (cs ds : List Value) (w : World) (ok : Nat → Prop) (hN : Dx.count u ≤ N + 1) (hM : Dx.count u ≤ 1000000) (hj : QyAt w ok u cs) (hi : QyAt w ok v ds) :
    Calls Tryz.prog 18 #[.agg cs.toArray, .agg ds.toArray] w (SameQ u v w) := by
  obtain ⟨k, t, a, b, c⟩ := u
  obtain ⟨k', t', a', b', c'⟩ := v
  obtain ⟨sa, sb, sc, rfl, ra, rb, rc⟩ := hj.all.rows
  obtain ⟨sa', sb', sc', rfl, ra', rb', rc'⟩ := hi.all.rows
  simp only [Dx.count] at hN hM
  have RA := Lib.hid ra; have RB := Lib.hid rb; have RC := Lib.hid rc; have RA2 := Lib.hid ra'; have RB2 := Lib.hid rb'; have RC2 := Lib.hid rc'
  have HB0 := Lib.hid (((Below.refl w.heap.size w).alloc (Nat.le_refl _) (.cells #[.int .i64 k, .string ⟨t.toArray⟩, sa, sb, sc] 26)).alloc (by simp) (.cells #[.int .i64 k', .string ⟨t'.toArray⟩, sa', sb', sc'] 26))
  have IH := Lib.hid ih; have HN := Lib.hid hN; have HM := Lib.hid hM
  clear hj hi ra rb rc ra' rb' rc' ih hN hM
  by_cases hk : k = k'
  rotate_left
  · have NE := Lib.hid (show ¬ (Dx.Qy.mk k t a b c = .mk k' t' a' b' c') from fun h => by injection h with h; exact hk h)
    have hkd : (k == k') = false := by simpa using hk
    go_enter Tryz.func18, Tryz.ntmps18
    go_wp2_with fail
    go_ret
    exact ⟨false, rfl, ⟨(fun h => by cases h), fun h => absurd h NE.out⟩, HB0.out⟩
  subst hk
  by_cases ht : t = t'
  rotate_left
  · have NE := Lib.hid (show ¬ (Dx.Qy.mk k t a b c = .mk k t' a' b' c') from fun h => by injection h with _ h; exact ht h)
    have htd : (t == t') = false := by simpa using ht
    go_enter Tryz.func18, Tryz.ntmps18
    go_wp2_with fail
    go_ret
    exact ⟨false, rfl, ⟨(fun h => by cases h), fun h => absurd h NE.out⟩, HB0.out⟩
  subst ht
  have HBX := Lib.hid ((Below.heap_alloc _ (.cells #[.int .i64 k, .string ⟨t.toArray⟩, sa', sb', sc'] 26) _ (by simp)).trans (heap_alloc_new w (.cells #[.int .i64 k, .string ⟨t.toArray⟩, sa, sb, sc] 26)))
  have HBY := Lib.hid (show ((w.alloc (.cells #[.int .i64 k, .string ⟨t.toArray⟩, sa, sb, sc] 26)).alloc (.cells #[.int .i64 k, .string ⟨t.toArray⟩, sa', sb', sc'] 26)).heap[w.heap.size + 1]? = some (.cells #[.int .i64 k, .string ⟨t.toArray⟩, sa', sb', sc'] 26 (0, 0)) from by have := heap_alloc_new (w.alloc (.cells #[.int .i64 k, .string ⟨t.toArray⟩, sa, sb, sc] 26)) (.cells #[.int .i64 k, .string ⟨t.toArray⟩, sa', sb', sc'] 26); simpa using this)
  go_enter Tryz.func18, Tryz.ntmps18
  go_wp2_with fail
  refine (IH.out a a' sa sa' _ (fun g => g < w.heap.size) (by have := HN.out; omega) (by have := HM.out; omega) (RA.out.below HB0.out) (RA2.out.below HB0.out)).mono ?_
  rintro e w1 ⟨r1, rfl, hr, hb⟩
  have HR1 := Lib.hid hr
  have HB1 := Lib.hid (HB0.out.trans (hb.mono HB0.out.size))
  have HBX1 := Lib.hid ((hb.block _ (heap_lt HBX.out)).trans HBX.out)
  have HBY1 := Lib.hid ((hb.block _ (heap_lt HBY.out)).trans HBY.out)
  clear hr hb
  cases r1 with
  | false =>
    have NE := Lib.hid (show ¬ (Dx.Qy.mk k t a b c = .mk k t a' b' c') from fun h => by
      injection h with _ _ h1 h2 h3
      have := HR1.out.2 h1
      cases this)
    go_wp2_with fail
    go_ret
    exact ⟨false, rfl, ⟨(fun h => by cases h), fun h => absurd h NE.out⟩, HB1.out⟩
  | true =>
    obtain ⟨q0, q1, q2, q3, q4, _⟩ := cells5 HBX1.out
    obtain ⟨p0, p1, p2, p3, p4, _⟩ := cells5 HBY1.out
    go_wp2_with fail
    refine (IH.out b b' sb sb' _ (fun g => g < w.heap.size) (by have := HN.out; omega) (by have := HM.out; omega) (RB.out.below HB1.out) (RB2.out.below HB1.out)).mono ?_
    rintro e w2 ⟨r2, rfl, hr, hb⟩
    have HR2 := Lib.hid hr
    have HB2 := Lib.hid (HB1.out.trans (hb.mono HB1.out.size))
    have HBX2 := Lib.hid ((hb.block _ (heap_lt HBX1.out)).trans HBX1.out)
    have HBY2 := Lib.hid ((hb.block _ (heap_lt HBY1.out)).trans HBY1.out)
    clear hr hb
    cases r2 with
    | false =>
      have NE := Lib.hid (show ¬ (Dx.Qy.mk k t a b c = .mk k t a' b' c') from fun h => by
        injection h with _ _ h1 h2 h3
        have := HR2.out.2 h2
        cases this)
      go_wp2_with fail
      go_ret
      exact ⟨false, rfl, ⟨(fun h => by cases h), fun h => absurd h NE.out⟩, HB2.out⟩
    | true =>
      obtain ⟨q0, q1, q2, q3, q4, _⟩ := cells5 HBX2.out
      obtain ⟨p0, p1, p2, p3, p4, _⟩ := cells5 HBY2.out
      go_wp2_with fail
      refine (IH.out c c' sc sc' _ (fun g => g < w.heap.size) (by have := HN.out; omega) (by have := HM.out; omega) (RC.out.below HB2.out) (RC2.out.below HB2.out)).mono ?_
      rintro e w3 ⟨r3, rfl, hr, hb⟩
      have HR3 := Lib.hid hr
      have HB3 := Lib.hid (HB2.out.trans (hb.mono HB2.out.size))
      have HBX3 := Lib.hid ((hb.block _ (heap_lt HBX2.out)).trans HBX2.out)
      have HBY3 := Lib.hid ((hb.block _ (heap_lt HBY2.out)).trans HBY2.out)
      clear hr hb
      cases r3 with
      | false =>
        have NE := Lib.hid (show ¬ (Dx.Qy.mk k t a b c = .mk k t a' b' c') from fun h => by
          injection h with _ _ h1 h2 h3
          have := HR3.out.2 h3
          cases this)
        go_wp2_with fail
        go_ret
        exact ⟨false, rfl, ⟨(fun h => by cases h), fun h => absurd h NE.out⟩, HB3.out⟩
      | true =>
        have EQ := Lib.hid (show Dx.Qy.mk k t a b c = .mk k t a' b' c' from by
          have e1 : a = a' := by simpa using HR1.out
          have e2 : b = b' := by simpa using HR2.out
          have e3 : c = c' := by simpa using HR3.out
          rw [e1, e2, e3])
        go_wp2_with fail
        go_ret
        exact ⟨true, rfl, ⟨fun _ => EQ.out, fun _ => rfl⟩, HB3.out⟩

theorem sameQ_calls : ∀ (N : Nat) (u v : Dx.Qy) (cs ds : List Value) (w : World) (ok : Nat → Prop), Dx.count u ≤ N → Dx.count u ≤ 1000000 → QyAt w ok u cs → QyAt w ok v ds →
    Calls Tryz.prog 18 #[.agg cs.toArray, .agg ds.toArray] w (SameQ u v w)
  | 0 => fun u _ _ _ _ _ h => by have := count_pos u; omega
  | N + 1 => fun u v cs ds w ok hN hM hj hi => sameQ_step N (fun qs rs sa sb w ok hq hm h1 h2 => sameL_step N (fun u v cs ds w ok hu hum => sameQ_calls N u v cs ds w ok hu hum) qs rs sa sb w ok hq hm h1 h2) u v cs ds w ok hN hM hj hi
end Go.Proofs.YtejlddimokmgjaaGreatDoor
namespace Go.Proofs.YtejlddimokmgjaaGreatDoor
open Go.RowKit

/-- What 'Get' hands back. -/
def GetK (ok : Nat → Prop) (v : Cx.J) (t : List UInt8) (w : World) (e : Ending) (w' : World) : Prop :=
  ∃ cs : List Value, e = .returned (.tuple #[.agg cs.toArray, .bool (Cx.get v t).isSome]) ∧ JAt w' ok ((Cx.get v t).getD (.mk 0 false [] [] [])) cs ∧ Below w.heap.size w w'

set_option maxRecDepth 100000 in
set_option maxHeartbeats 2000000 in
theorem getk_calls (v : Cx.J) (cs : List Value) (n : List UInt8) (w : World) (ok : Nat → Prop) (hj : JAt w ok v cs) (hf : fit maxLen v) :
    Calls Tryz.prog 21 #[.agg cs.toArray, .string ⟨n.toArray⟩] w (GetK ok v n w) := by
  cases v with
  | mk k is t ns ks =>
  obtain ⟨a, nc, a', kc, rfl⟩ := hj.shape
  have hnl : ns.length ≤ maxLen := hf.2.1
  have hkl : ks.length ≤ maxLen := hf.2.2.2.1
  unfold maxLen at hnl hkl
  have J := Lib.hid (JAt.kept (ok' := fun g => ok g ∧ g < w.heap.size) (Nat.le_refl _) (fun g h hl => ⟨rfl, h, hl⟩) _ _ hj)
  have hrow : Row w (fun g => ok g ∧ g < w.heap.size) (.slice a ns.length nc) ns.length (ns.map strV) := by
    have hj := J.out
    unfold JAt at hj
    obtain ⟨sn, sk, hcs, h1, _⟩ := hj
    injection hcs with _ hcs; injection hcs with _ hcs; injection hcs with _ hcs; injection hcs with e3 hcs
    rw [e3]; exact h1
  have HROW := Lib.hid hrow
  have hb2 : Below w.heap.size w ((w.alloc (.cells #[.int .i64 k, .bool is, .string ⟨t.toArray⟩, .slice a ns.length nc, .slice a' ks.length kc] 48)).alloc (.cells #[.int .i64 0, .bool false, .string ⟨#[]⟩, .slice none 0 0, .slice none 0 0] 48)) := ((Below.refl w.heap.size w).alloc (Nat.le_refl _) _).alloc (by simp) _
  have HB2 := Lib.hid hb2
  clear hj hf hrow hb2
  have hixb : -1 ≤ ixN ns n ∧ ixN ns n < (ns.length : Int) + 1 := by
    unfold ixN
    split
    · rename_i h; have := List.idxOf_lt_length_of_mem h; omega
    · omega
  obtain ⟨hix1, hix2⟩ := hixb
  go_enter Tryz.func21, Tryz.ntmps21
  go_wp2_with fail
  refine (indexS_calls _ ns n _ _ (Row.kept (ok' := fun g => ok g ∧ g < w.heap.size) HROW.out HB2.out.size (fun g h hl => ⟨HB2.out.block g hl, h⟩)) (by omega)).mono ?_
  rintro e w5 ⟨rfl, rfl⟩
  obtain ⟨r, hr⟩ : ∃ r, r = ixN ns n := ⟨_, rfl⟩
  rw [← hr] at hix1 hix2 ⊢
  have HRX := Lib.hid hr
  clear hr
  by_cases hk : k = 6
  · subst hk
    by_cases hneg : r < 0
    · have HGN : Hid (Cx.get (.mk 6 is t ns ks) n = none) := Lib.hid (by
        have h := HRX.out
        unfold ixN at h
        show (if (6 : Int) = 6 ∧ n ∈ ns then ks[ns.idxOf n]? else none) = none
        rw [if_neg]
        rintro ⟨_, hm⟩
        rw [if_pos hm] at h
        omega)
      go_wp2_with fail
      exact bodyPost_ret (v := .tuple #[.agg #[.int .i64 0, .bool false, .string ⟨#[]⟩, .slice none 0 0, .slice none 0 0], .bool false]) (by simp [results, Tryz.results21, go_sem]) rfl ⟨[.int .i64 0, .bool false, .string ⟨#[]⟩, .slice none 0 0, .slice none 0 0], by rw [HGN.out]; rfl, by rw [HGN.out]; exact JAt.plain, HB2.out⟩
    · have hm : n ∈ ns := by
        have h := HRX.out
        unfold ixN at h
        by_cases hm : n ∈ ns
        · exact hm
        · rw [if_neg hm] at h; omega
      have hre : r = (ns.idxOf n : Int) := by rw [HRX.out]; unfold ixN; rw [if_pos hm]
      have hnegd : decide (r < 0) = false := by simp; omega
      obtain ⟨i, hi⟩ : ∃ i, i = ns.idxOf n := ⟨_, rfl⟩
      rw [← hi] at hre
      have HI := Lib.hid hi; have HM := Lib.hid hm
      clear hi hm
      subst hre
      by_cases hge : ks.length ≤ i
      · have HGN : Hid (Cx.get (.mk 6 is t ns ks) n = none) := Lib.hid (by
          show (if (6 : Int) = 6 ∧ n ∈ ns then ks[ns.idxOf n]? else none) = none
          rw [if_pos ⟨rfl, HM.out⟩, ← HI.out]
          exact List.getElem?_eq_none hge)
        have hged : decide ((ks.length : Int) ≤ (i : Int)) = true := by simp; omega
        go_wp2_with fail
        exact bodyPost_ret (v := .tuple #[.agg #[.int .i64 0, .bool false, .string ⟨#[]⟩, .slice none 0 0, .slice none 0 0], .bool false]) (by simp [results, Tryz.results21, go_sem]) rfl ⟨[.int .i64 0, .bool false, .string ⟨#[]⟩, .slice none 0 0, .slice none 0 0], by rw [HGN.out]; rfl, by rw [HGN.out]; exact JAt.plain, HB2.out⟩
      · obtain ⟨k, hk⟩ : ∃ k, ks[i]? = some k := ⟨ks[i]'(by omega), List.getElem?_eq_getElem _⟩
        have HGN : Hid (Cx.get (.mk 6 is t ns ks) n = some k) := Lib.hid (by
          show (if (6 : Int) = 6 ∧ n ∈ ns then ks[ns.idxOf n]? else none) = some k
          rw [if_pos ⟨rfl, HM.out⟩, ← HI.out]
          exact hk)
        obtain ⟨g, o, cap, hv, _, hgl, kb0, kb1, kb2, kb3, hkj, d0, d1, d2, d3, d4⟩ := J.out.kid' hk
        injection hv with ha _ hc
        subst ha hc
        have hged : decide ((ks.length : Int) ≤ (i : Int)) = false := by simp; omega
        have hlt : (i : Int) < (ks.length : Int) := by omega
        have KJ := Lib.hid hkj
        clear hkj hge hk
        go_wp2_with fail
        have hb3 : Below w.heap.size w ((w.alloc (.cells #[.int .i64 6, .bool is, .string ⟨t.toArray⟩, .slice a ns.length nc, .slice (some ⟨g, o, none⟩) ks.length kc] 48)).alloc (.cells #[.int .i64 k.kind, .bool k.is, .string ⟨k.text.toArray⟩, .slice kb0 k.names.length kb1, .slice kb2 k.kids.length kb3] 48)) := ((Below.refl w.heap.size w).alloc (Nat.le_refl _) _).alloc (by simp) _
        exact bodyPost_ret (v := .tuple #[.agg #[.int .i64 k.kind, .bool k.is, .string ⟨k.text.toArray⟩, .slice kb0 k.names.length kb1, .slice kb2 k.kids.length kb3], .bool true]) (by simp [results, Tryz.results21, go_sem]) rfl ⟨[.int .i64 k.kind, .bool k.is, .string ⟨k.text.toArray⟩, .slice kb0 k.names.length kb1, .slice kb2 k.kids.length kb3], by rw [HGN.out]; rfl, by rw [HGN.out]; exact JAt.kept hb3.size (fun g h hl => ⟨hb3.block g h.2, h.1⟩) _ _ KJ.out, hb3⟩
  · have HGN : Hid (Cx.get (.mk k is t ns ks) n = none) := Lib.hid (by
      show (if k = 6 ∧ n ∈ ns then ks[ns.idxOf n]? else none) = none
      rw [if_neg]
      rintro ⟨h6, _⟩
      exact hk h6)
    have hkd : (k != 6) = true := by simpa using hk
    go_wp2_with fail
    exact bodyPost_ret (v := .tuple #[.agg #[.int .i64 0, .bool false, .string ⟨#[]⟩, .slice none 0 0, .slice none 0 0], .bool false]) (by simp [results, Tryz.results21, go_sem]) rfl ⟨[.int .i64 0, .bool false, .string ⟨#[]⟩, .slice none 0 0, .slice none 0 0], by rw [HGN.out]; rfl, by rw [HGN.out]; exact JAt.plain, HB2.out⟩
end Go.Proofs.YtejlddimokmgjaaGreatDoor
namespace Go.Proofs.YtejlddimokmgjaaGreatDoor
open Go.RowKit

theorem Row.shape {w : World} {ok : Nat → Prop} {v : Value} {n : Nat} {xs : List Value} (h : Row w ok v n xs) : ∃ a c, v = .slice a n c := by
  rcases h with ⟨hz, _, a, c, hv⟩ | ⟨_, g, o, c, hv, _⟩
  · exact ⟨a, c, by rw [hv, hz]⟩
  · exact ⟨_, c, hv⟩
theorem Row.at_ {w : World} {ok : Nat → Prop} {a : Option Addr} {c n : Nat} {xs : List Value} (h : Row w ok (.slice a n c) n xs) {i : Nat} {u : Value} (hi : xs[i]? = some u) : ∃ g o, a = some ⟨g, o, none⟩ ∧ ok g ∧ g < w.heap.size ∧ w.cell? ⟨g, o + i, none⟩ = some u := by
  rcases h with ⟨_, hx, _⟩ | ⟨_, g, o, c, hv, _, hg, hl, hc⟩
  · rw [hx] at hi; simp at hi
  · injection hv with ha _ _
    exact ⟨g, o, ha, hg, hl, hc i u hi⟩
theorem Row.belowA {w w' : World} {ok : Nat → Prop} {v : Value} {n : Nat} {xs : List Value} (h : Row w ok v n xs) (k : Below w.heap.size w w') : Row w' (fun g => g < w.heap.size) v n xs := by
  rcases h with h | ⟨hn, g, o, cap, hv, hnc, hg, hl, hc⟩
  · exact .inl h
  · exact .inr ⟨hn, g, o, cap, hv, hnc, hl, Nat.lt_of_lt_of_le hl k.size, fun j u hu => (k.cell (p := ⟨g, o + j, none⟩) hl).trans (hc j u hu)⟩

theorem containsS_calls (sn : Value) (ns : List (List UInt8)) (t : List UInt8) (ok : Nat → Prop) (w : World) (h : Row w ok sn ns.length (ns.map strV)) (hn : ns.length ≤ 9223372036854775807) :
    Calls Tryz.prog 69 #[sn, .string ⟨t.toArray⟩] w fun e w' => e = .returned (.bool (decide (t ∈ ns))) ∧ w' = w := by
  have CI := Lib.hid (indexS_calls sn ns t ok w h hn)
  have hd : decide (t ∈ ns) = decide (0 ≤ ixN ns t) := by
    unfold ixN
    by_cases hm : t ∈ ns
    · rw [if_pos hm, decide_eq_true hm, eq_comm, decide_eq_true_iff]; omega
    · rw [if_neg hm, decide_eq_false hm]; rfl
  rw [hd]
  obtain ⟨r, hr⟩ : ∃ r, r = ixN ns t := ⟨_, rfl⟩
  rw [← hr] at CI ⊢
  clear hd hr h
  go_enter Tryz.func69, Tryz.ntmps69
  go_wp2_with fail
  refine CI.out.mono ?_
  rintro e w' ⟨rfl, hw'⟩
  subst hw'
  go_wp2_with fail
  go_ret
  exact ⟨rfl, rfl⟩

set_option maxRecDepth 100000 in
/-- The closure: is a name none of those? The names lie in a box of their own. -/
theorem onlyName_calls (b : Nat) (sn : Value) (l : List (List UInt8)) (t : List UInt8) (ok : Nat → Prop) (w : World) (hb : w.cell? ⟨b, 0, none⟩ = some sn) (h : Row w ok sn l.length (l.map strV)) (hl : l.length ≤ 100) :
    Calls Tryz.prog 68 #[.string ⟨t.toArray⟩, .pointer (some ⟨b, 0, none⟩)] w fun e w' => e = .returned (.bool (!decide (t ∈ l))) ∧ w' = w := by
  obtain ⟨a, c, rfl⟩ := h.shape
  have CC := Lib.hid (containsS_calls _ l t ok w h (by omega))
  obtain ⟨r, hr⟩ : ∃ r, r = decide (t ∈ l) := ⟨_, rfl⟩
  rw [← hr] at CC ⊢
  clear h hr
  go_enter Tryz.func68, Tryz.ntmps68
  go_wp2_with fail
  refine CC.out.mono ?_
  rintro e w' ⟨rfl, hw'⟩
  have hw' := hw'.symm
  subst hw'
  go_wp2_with fail
  go_ret
  exact ⟨rfl, rfl⟩

set_option maxRecDepth 100000 in
set_option maxHeartbeats 2000000 in
theorem indexFS_calls (p : List UInt8 → Bool) (cap : Value) (sn : Value) (ns : List (List UInt8)) (w : World) (ok : Nat → Prop) (h : Row w ok sn ns.length (ns.map strV)) (hkl : ns.length ≤ maxLen)
    (hcall : ∀ (wr : World) (t : List UInt8), Below w.heap.size w wr → Calls Tryz.prog 68 #[.string ⟨t.toArray⟩, cap] wr fun e w' => e = .returned (.bool (p t)) ∧ w' = wr) :
    Calls Tryz.prog 112 #[sn, .func (.func 68) #[] #[cap]] w fun e w' =>
      ∃ r : Int, e = .returned (.int .i64 r) ∧ decide (r < 0) = !(ns.any p) ∧ Below w.heap.size w w' := by
  unfold maxLen at hkl
  obtain ⟨a, kc, rfl⟩ := h.shape
  have H := Lib.hid h; have HC := Lib.hid hcall
  clear h hcall
  go_enter Tryz.func112, Tryz.ntmps112
  go_wp2_with fail
  go_loopg [8] (ns.length) (fun q z wr => ∃ (i : Nat), z = .int .i64 i ∧ q = ns.length - i ∧ i ≤ ns.length ∧ Hid (ns.any p = (ns.drop i).any p) ∧ Hid (Below w.heap.size w wr))
  case atStart => exact ⟨0, rfl, rfl, Nat.zero_le _, Lib.hid rfl, Lib.hid (Below.refl _ w)⟩
  case round =>
    obtain ⟨i, rfl, hq, hi, hr, hb⟩ := hrel
    have HQ := Lib.hid hq
    clear hq
    rcases Nat.lt_or_ge i ns.length with hlt | hge
    · obtain ⟨k, hk⟩ : ∃ k, ns[i]? = some k := ⟨ns[i], by simp [hlt]⟩
      have hdr : ns.drop i = k :: ns.drop (i + 1) := by
        rw [List.drop_eq_getElem_cons hlt]; congr 1
        rw [List.getElem?_eq_getElem hlt] at hk; exact Option.some.inj hk
      obtain ⟨g, o, rfl, _, hgl, hcell⟩ := H.out.at_ (i := i) (u := strV k) (by rw [List.getElem?_map, hk]; rfl)
      have b0 : wr.cell? ⟨g, o + i, none⟩ = some (.string ⟨k.toArray⟩) := (hb.out.cell (p := ⟨g, o + i, none⟩) hgl).trans hcell
      have HD := Lib.hid hdr
      clear hcell hk hdr
      go_wp2_with fail
      refine (HC.out wr k hb.out).mono ?_
      rintro e w' ⟨rfl, hw'⟩
      have hw' := hw'.symm
      subst hw'
      have hr2 := hr.out
      rw [HD.out, List.any_cons] at hr2
      clear b0
      cases hp : p k with
      | true =>
        rw [hp] at hr2
        have HR2 := Lib.hid hr2
        clear hr2 hp
        go_wp2
        go_ret
        exact ⟨i, rfl, by rw [HR2.out]; simp, hb.out⟩
      | false =>
        rw [hp, Bool.false_or] at hr2
        have HR2 := Lib.hid hr2
        clear hr2 hp
        go_wp2
        go_roundg (ns.length - (i + 1))
        case measure => have := HQ.out; omega
        case rel => exact ⟨i + 1, by go_num, rfl, by omega, HR2, hb⟩
    · have hik : i = ns.length := by omega
      subst hik
      have hfin : ns.any p = false := by
        have := hr.out
        rw [List.drop_length] at this
        simpa using this
      have HF := Lib.hid hfin
      clear hfin
      go_wp2
      go_ret
      exact ⟨-1, rfl, by rw [HF.out]; rfl, hb.out⟩

set_option maxRecDepth 100000 in
theorem containsFS_calls (p : List UInt8 → Bool) (cap : Value) (sn : Value) (ns : List (List UInt8)) (w : World) (ok : Nat → Prop) (h : Row w ok sn ns.length (ns.map strV)) (hkl : ns.length ≤ maxLen)
    (hcall : ∀ (wr : World) (t : List UInt8), Below w.heap.size w wr → Calls Tryz.prog 68 #[.string ⟨t.toArray⟩, cap] wr fun e w' => e = .returned (.bool (p t)) ∧ w' = wr) :
    Calls Tryz.prog 67 #[sn, .func (.func 68) #[] #[cap]] w fun e w' =>
      e = .returned (.bool (ns.any p)) ∧ Below w.heap.size w w' := by
  have HI := Lib.hid (indexFS_calls p cap sn ns w ok h hkl hcall)
  clear h hcall
  go_enter Tryz.func67, Tryz.ntmps67
  go_wp2_with fail
  refine HI.out.mono ?_
  rintro e w5 ⟨r, rfl, hr, hb⟩
  have HR := Lib.hid hr; have HB := Lib.hid hb
  clear hr hb
  go_wp2
  have e : ns.any p = decide (0 ≤ r) := by
    have h := HR.out
    cases ha : ns.any p <;> rw [ha] at h <;> simp at h ⊢ <;> omega
  rw [e]
  go_ret
  exact ⟨rfl, HB.out⟩

theorem only_any (v : Cx.J) (l : List (List UInt8)) : Dx.only v l = (decide (v.kind = 6) && !(v.names.any fun n => !decide (n ∈ l))) := by
  unfold Dx.only
  congr 1
  induction v.names with
  | nil => rfl
  | cons a r ih => simp only [List.all_cons, List.any_cons, ih, Bool.not_or, Bool.not_not]

set_option maxRecDepth 100000 in
set_option maxHeartbeats 2000000 in
theorem only_calls (v : Cx.J) (cs : List Value) (sn : Value) (l : List (List UInt8)) (w : World) (ok ok2 : Nat → Prop) (hj : JAt w ok v cs) (hf : fit maxLen v) (h : Row w ok2 sn l.length (l.map strV)) (hl : l.length ≤ 100) :
    Calls Tryz.prog 32 #[.agg cs.toArray, sn] w fun e w' => e = .returned (.bool (Dx.only v l)) ∧ Below w.heap.size w w' := by
  cases v with
  | mk k is t ns ks =>
  replace hj := hj.all
  have hrow : ∀ a nc a' kc, [Value.int .i64 k, .bool is, .string ⟨t.toArray⟩, .slice a ns.length nc, .slice a' ks.length kc] = cs → Row w (fun g => g < w.heap.size) (.slice a ns.length nc) ns.length (ns.map strV) := by
    intro a nc a' kc he
    rw [← he] at hj
    unfold JAt at hj
    obtain ⟨sn, sk, hcs, h1, _⟩ := hj
    injection hcs with _ hcs; injection hcs with _ hcs; injection hcs with _ hcs; injection hcs with e3 hcs
    rw [e3]; exact h1
  obtain ⟨a, nc, a', kc, rfl⟩ := hj.shape
  replace hrow := hrow _ _ _ _ rfl
  obtain ⟨a2, c2, rfl⟩ := h.shape
  have hnl : ns.length ≤ maxLen := hf.2.1
  obtain ⟨R, hR⟩ : ∃ R, R = Dx.only (.mk k is t ns ks) l := ⟨_, rfl⟩
  rw [← hR]
  rw [only_any] at hR
  replace hR : R = (decide (k = 6) && !(ns.any fun n => !decide (n ∈ l))) := hR
  have hb2 : Below w.heap.size w ((w.alloc (.cells #[.int .i64 k, .bool is, .string ⟨t.toArray⟩, .slice a ns.length nc, .slice a' ks.length kc] 48)).alloc (.cells #[.slice a2 l.length c2] 45)) := ((Below.refl w.heap.size w).alloc (Nat.le_refl _) _).alloc (by simp) _
  have hbx : ((w.alloc (.cells #[.int .i64 k, .bool is, .string ⟨t.toArray⟩, .slice a ns.length nc, .slice a' ks.length kc] 48)).alloc (.cells #[.slice a2 l.length c2] 45)).cell? ⟨w.heap.size + 1, 0, none⟩ = some (.slice a2 l.length c2) := by
    have := heap_alloc_new (w.alloc (.cells #[.int .i64 k, .bool is, .string ⟨t.toArray⟩, .slice a ns.length nc, .slice a' ks.length kc] 48)) (.cells #[.slice a2 l.length c2] 45)
    simp [World.cell?] at this ⊢
    simp [this]
  have HR := Lib.hid hR; have HB2 := Lib.hid hb2; have HBX := Lib.hid hbx; have H := Lib.hid h; have ROW := Lib.hid hrow; have HNL := Lib.hid hnl
  clear hj hf h hnl hR hb2 hbx hrow
  by_cases hk : k = 6
  · subst hk
    have hr := HR.out
    rw [decide_eq_true rfl, Bool.true_and] at hr
    obtain ⟨r, hq⟩ : ∃ r, r = ns.any fun n => !decide (n ∈ l) := ⟨_, rfl⟩
    rw [hr, ← hq]
    have HQ := Lib.hid hq
    clear hr HR hq
    go_enter Tryz.func32, Tryz.ntmps32
    go_wp2_with fail
    refine (containsFS_calls (fun n => !decide (n ∈ l)) (.pointer (some ⟨w.heap.size + 1, 0, none⟩)) (.slice a ns.length nc) ns _ _ (ROW.out.below HB2.out) HNL.out (fun wr t hb => onlyName_calls (w.heap.size + 1) (.slice a2 l.length c2) l t (fun g => g < w.heap.size) wr ((hb.cell (p := ⟨w.heap.size + 1, 0, none⟩) (by simp)).trans HBX.out) (H.out.belowA (HB2.out.trans (hb.mono HB2.out.size))) hl)).mono ?_
    rintro e w5 ⟨rfl, hb⟩
    have HB5 := Lib.hid (HB2.out.trans (hb.mono HB2.out.size))
    rw [← HQ.out]
    clear hb
    go_wp2
    go_ret
    exact ⟨rfl, HB5.out⟩
  · have hkd : (k == 6) = false := by simpa using hk
    have hr := HR.out
    rw [decide_eq_false hk, Bool.false_and] at hr
    rw [hr]
    clear HR hr
    go_enter Tryz.func32, Tryz.ntmps32
    go_wp2_with fail
    go_ret
    exact ⟨rfl, HB2.out⟩
end Go.Proofs.YtejlddimokmgjaaGreatDoor
namespace Go.Proofs.YtejlddimokmgjaaGreatDoor
open Go.RowKit

def singleN (v : Cx.J) : List UInt8 := match Dx.single v with | some p => p.1 | none => []
def singleV (v : Cx.J) : Cx.J := match Dx.single v with | some p => p.2 | none => v
/-- What 'single' hands back. -/
def SinglePost (v : Cx.J) (w : World) (e : Ending) (w' : World) : Prop :=
  ∃ cs : List Value, e = .returned (.tuple #[.string ⟨(singleN v).toArray⟩, .agg cs.toArray, .bool (Dx.single v).isSome]) ∧ JAt w' (fun g => g < w.heap.size) (singleV v) cs ∧ Below w.heap.size w w'

set_option maxRecDepth 100000 in
set_option maxHeartbeats 2000000 in
theorem single_calls (v : Cx.J) (cs : List Value) (w : World) (ok : Nat → Prop) (hj : JAt w ok v cs) (hr : v.kind = 6 → v.names.length = v.kids.length) :
    Calls Tryz.prog 70 #[.agg cs.toArray] w (SinglePost v w) := by
  have hnk := hr
  cases v with
  | mk k is t ns ks =>
  have hj := hj.all
  obtain ⟨a, nc, a', kc, rfl⟩ := hj.shape
  have hsg : Dx.single (.mk k is t ns ks) = if k = 6 ∧ ks.length = 1 then some (ns.headD [], ks.headD Cx.nil) else none := rfl
  have hnk' : k = 6 → ns.length = ks.length := hnk
  have J := Lib.hid hj
  clear hnk hr
  by_cases hk : k = 6
  · by_cases h1 : ks.length = 1
    · obtain ⟨x, rfl⟩ : ∃ x, ks = [x] := List.length_eq_one_iff.1 h1
      obtain ⟨n, rfl⟩ : ∃ n, ns = [n] := List.length_eq_one_iff.1 (by rw [hnk' hk]; rfl)
      have hso : Dx.single (.mk k is t [n] [x]) = some (n, x) := by rw [hsg, if_pos ⟨hk, rfl⟩]; rfl
      subst hk
      obtain ⟨g, o, cap, hv, _, hgl, kb0, kb1, kb2, kb3, hkj, d0, d1, d2, d3, d4⟩ := hj.kid' (i := 0) (k := x) rfl
      injection hv with ha' _ hkc
      subst ha' hkc
      have hrow : Row w (fun g => g < w.heap.size) (.slice a [n].length nc) [n].length ([n].map strV) := by
        unfold JAt at hj
        obtain ⟨sn, sk, hcs, h1, _⟩ := hj
        injection hcs with _ hcs; injection hcs with _ hcs; injection hcs with _ hcs; injection hcs with e3 hcs
        rw [e3]; exact h1
      obtain ⟨g', o', rfl, _, hgl', b0⟩ := hrow.at_ (i := 0) (u := strV n) rfl
      have b0' : w.cell? ⟨g', o', none⟩ = some (.string ⟨n.toArray⟩) := b0
      simp only [Nat.zero_mul, Nat.add_zero] at d0 d1 d2 d3 d4
      have HSO := Lib.hid hso; have KJ := Lib.hid hkj
      clear hso hrow hnk' hsg hj b0 hkj J
      go_enter Tryz.func70, Tryz.ntmps70
      go_wp2_with fail
      go_region
      go_wp2_with fail
      exact bodyPost_ret (v := .tuple #[.string ⟨n.toArray⟩, .agg #[.int .i64 x.kind, .bool x.is, .string ⟨x.text.toArray⟩, .slice kb0 x.names.length kb1, .slice kb2 x.kids.length kb3], .bool true]) (by simp [results, Tryz.results70, go_sem]) rfl ⟨[.int .i64 x.kind, .bool x.is, .string ⟨x.text.toArray⟩, .slice kb0 x.names.length kb1, .slice kb2 x.kids.length kb3], by unfold singleN; rw [HSO.out]; rfl, by unfold singleV; rw [HSO.out]; exact KJ.out.below (((Below.refl w.heap.size w).alloc (Nat.le_refl _) _).alloc (by simp) _).drew, (((Below.refl w.heap.size w).alloc (Nat.le_refl _) _).alloc (by simp) _).drew⟩
    · have hno : Dx.single (.mk k is t ns ks) = none := by rw [hsg, if_neg (fun h => h1 h.2)]
      have hle : ((ks.length : Int) != 1) = true := by rw [bne_iff_ne]; omega
      have HNO := Lib.hid hno
      subst hk
      clear hno h1 hnk' hsg hj
      go_enter Tryz.func70, Tryz.ntmps70
      go_wp2_with fail
      go_region
      go_wp2_with fail
      exact bodyPost_ret (v := .tuple #[.string ⟨#[]⟩, .agg #[.int .i64 6, .bool is, .string ⟨t.toArray⟩, .slice a ns.length nc, .slice a' ks.length kc], .bool false]) (by simp [results, Tryz.results70, go_sem]) rfl ⟨[.int .i64 6, .bool is, .string ⟨t.toArray⟩, .slice a ns.length nc, .slice a' ks.length kc], by unfold singleN; rw [HNO.out]; rfl, by unfold singleV; rw [HNO.out]; exact J.out.below (((Below.refl w.heap.size w).alloc (Nat.le_refl _) _).alloc (by simp) _).drew, (((Below.refl w.heap.size w).alloc (Nat.le_refl _) _).alloc (by simp) _).drew⟩
  · have hno : Dx.single (.mk k is t ns ks) = none := by rw [hsg, if_neg (fun h => hk h.1)]
    have hkd : (k != 6) = true := by simpa using hk
    have HNO := Lib.hid hno
    clear hno hk hnk' hsg hj
    go_enter Tryz.func70, Tryz.ntmps70
    go_wp2_with fail
    go_region
    go_wp2_with fail
    exact bodyPost_ret (v := .tuple #[.string ⟨#[]⟩, .agg #[.int .i64 k, .bool is, .string ⟨t.toArray⟩, .slice a ns.length nc, .slice a' ks.length kc], .bool false]) (by simp [results, Tryz.results70, go_sem]) rfl ⟨[.int .i64 k, .bool is, .string ⟨t.toArray⟩, .slice a ns.length nc, .slice a' ks.length kc], by unfold singleN; rw [HNO.out]; rfl, by unfold singleV; rw [HNO.out]; exact J.out.below (((Below.refl w.heap.size w).alloc (Nat.le_refl _) _).alloc (by simp) _).drew, (((Below.refl w.heap.size w).alloc (Nat.le_refl _) _).alloc (by simp) _).drew⟩
end Go.Proofs.YtejlddimokmgjaaGreatDoor
namespace Go.Proofs.YtejlddimokmgjaaGreatDoor
open Go.RowKit

def textV (v : Cx.J) (n : List UInt8) : List UInt8 := match Cx.get v n with | some k => k.text | none => []
theorem textOf_some {v : Cx.J} {n : List UInt8} : Dx.textOf v n = if (Dx.textOf v n).isSome = true then some (textV v n) else none := by
  unfold Dx.textOf textV
  cases Cx.get v n with
  | none => rfl
  | some k => by_cases h : k.kind = 4 <;> simp [h]
/-- What 'text' hands back. -/
def TextPost (v : Cx.J) (n : List UInt8) (w : World) (e : Ending) (w' : World) : Prop :=
  e = .returned (.tuple #[.string ⟨(textV v n).toArray⟩, .bool (Dx.textOf v n).isSome]) ∧ Below w.heap.size w w'

set_option maxRecDepth 100000 in
set_option maxHeartbeats 2000000 in
theorem dtext_calls (v : Cx.J) (cs : List Value) (n : List UInt8) (w : World) (ok : Nat → Prop) (hj : JAt w ok v cs) (hf : fit maxLen v) :
    Calls Tryz.prog 76 #[.agg cs.toArray, .string ⟨n.toArray⟩] w (TextPost v n w) := by
  cases v with
  | mk k is t ns ks =>
  have hj := hj.all
  obtain ⟨a, nc, a', kc, rfl⟩ := hj.shape
  obtain ⟨V, hV⟩ : ∃ V, V = Cx.J.mk k is t ns ks := ⟨_, rfl⟩
  rw [← hV] at hj hf ⊢
  have J := Lib.hid hj; have F := Lib.hid hf
  have HB1 := Lib.hid ((Below.refl w.heap.size w).alloc (Nat.le_refl _) (.cells #[.int .i64 k, .bool is, .string ⟨t.toArray⟩, .slice a ns.length nc, .slice a' ks.length kc] 48))
  clear hj hf hV
  go_enter Tryz.func76, Tryz.ntmps76
  go_wp2_with fail
  refine (get_calls V [.int .i64 k, .bool is, .string ⟨t.toArray⟩, .slice a ns.length nc, .slice a' ks.length kc] n _ _ (J.out.below HB1.out) F.out).mono ?_
  rintro e w5 ⟨cs, rfl, hj, hb⟩
  have HB := Lib.hid (HB1.out.trans (hb.mono HB1.out.size))
  cases hg : Cx.get V n with
  | none =>
    rw [hg] at hj
    obtain ⟨b, nc2, b', kc2, rfl⟩ := hj.shape
    have HG := Lib.hid hg
    clear hj hb hg
    go_wp2_with fail
    go_region
    go_wp2_with fail
    exact bodyPost_ret (v := .tuple #[.string ⟨#[]⟩, .bool false]) (by simp [results, Tryz.results76, go_sem]) rfl ⟨by unfold textV Dx.textOf; rw [HG.out]; rfl, (by first | exact HB.out | exact HB.out.alloc HB.out.size _ | exact (HB.out.alloc HB.out.size _).drew)⟩
  | some x =>
    rw [hg] at hj
    have HG := Lib.hid hg
    simp only [Option.getD_some, Option.isSome_some] at hj ⊢
    cases x with
    | mk k2 is2 t2 ns2 ks2 =>
    obtain ⟨b, nc2, b', kc2, rfl⟩ := hj.shape
    clear hj hb hg
    by_cases h4 : k2 = 4
    · subst h4
      go_wp2_with fail
      go_region
      go_wp2_with fail
      exact bodyPost_ret (v := .tuple #[.string ⟨t2.toArray⟩, .bool true]) (by simp [results, Tryz.results76, go_sem]) rfl ⟨by unfold textV Dx.textOf; rw [HG.out]; rfl, (by first | exact HB.out | exact HB.out.alloc HB.out.size _ | exact (HB.out.alloc HB.out.size _).drew)⟩
    · have hk4 : (k2 == 4) = false := by simpa using h4
      have HK := Lib.hid h4
      clear h4
      go_wp2_with fail
      go_region
      go_wp2_with fail
      exact bodyPost_ret (v := .tuple #[.string ⟨t2.toArray⟩, .bool false]) (by simp [results, Tryz.results76, go_sem]) rfl ⟨by unfold textV Dx.textOf; rw [HG.out]; simp [Cx.J.kind, Cx.J.text, HK.out], (by first | exact HB.out | exact HB.out.alloc HB.out.size _ | exact (HB.out.alloc HB.out.size _).drew)⟩
end Go.Proofs.YtejlddimokmgjaaGreatDoor
namespace Go.Proofs.YtejlddimokmgjaaGreatDoor
open Go.RowKit

/-- What 'op' hands back. -/
def OpPost (v : Cx.J) (w : World) (e : Ending) (w' : World) : Prop :=
  ∃ o : Dx.Op, e = .returned (.tuple #[.agg #[.bool o.del, .string ⟨o.id.toArray⟩, .string ⟨o.text.toArray⟩], .bool (Dx.op v).isSome]) ∧ (∀ p, Dx.op v = some p → o = p) ∧ Below w.heap.size w w'
theorem single_fit {L : Nat} {v : Cx.J} (h : Cx.fit L v) : Cx.fit L (singleV v) := by
  unfold singleV
  cases hs : Dx.single v with
  | none => exact h
  | some p =>
    obtain ⟨m, k⟩ := p
    have hm := Dx.single_kid hs
    cases v with
    | mk kd is t ns ks => exact Dx.fit_kid h.2.2.2.2 hm
theorem op_none {v : Cx.J} (h : ((Dx.single v).isSome && (Dx.textOf (singleV v) Dx.tId).isSome) = false) : Dx.op v = none := by
  unfold Dx.op
  cases hs : Dx.single v with
  | none => rfl
  | some p =>
    obtain ⟨m, k⟩ := p
    have e : singleV v = k := by unfold singleV; rw [hs]
    rw [hs, e] at h
    simp only [Option.isSome_some, Bool.true_and, Option.isSome_eq_false_iff, Option.isNone_iff_eq_none] at h
    simp only [h]
theorem op_del {v : Cx.J} (h : ((Dx.single v).isSome && (Dx.textOf (singleV v) Dx.tId).isSome) = true) (hn : singleN v = Dx.tDelete) : Dx.op v = if Dx.only (singleV v) [Dx.tId] = true then some ⟨true, textV (singleV v) Dx.tId, []⟩ else none := by
  unfold Dx.op
  cases hs : Dx.single v with
  | none => rw [hs] at h; simp at h
  | some p =>
    obtain ⟨m, k⟩ := p
    have e : singleV v = k := by unfold singleV; rw [hs]
    have e2 : singleN v = m := by unfold singleN; rw [hs]
    rw [hs, e] at h
    rw [e2] at hn
    simp only [Option.isSome_some, Bool.true_and] at h
    have ht := textOf_some (v := k) (n := Dx.tId)
    rw [if_pos h] at ht
    simp only [ht, e]
    rw [if_pos hn]
theorem op_ix {v : Cx.J} (h : ((Dx.single v).isSome && (Dx.textOf (singleV v) Dx.tId).isSome) = true) (hn : singleN v ≠ Dx.tDelete) : Dx.op v = if (decide (singleN v = Dx.tIndex) && (Dx.textOf (singleV v) Dx.tText).isSome && Dx.only (singleV v) [Dx.tId, Dx.tText]) = true then some ⟨false, textV (singleV v) Dx.tId, textV (singleV v) Dx.tText⟩ else none := by
  unfold Dx.op
  cases hs : Dx.single v with
  | none => rw [hs] at h; simp at h
  | some p =>
    obtain ⟨m, k⟩ := p
    have e : singleV v = k := by unfold singleV; rw [hs]
    have e2 : singleN v = m := by unfold singleN; rw [hs]
    rw [hs, e] at h
    rw [e2] at hn
    simp only [Option.isSome_some, Bool.true_and] at h
    have ht := textOf_some (v := k) (n := Dx.tId)
    rw [if_pos h] at ht
    simp only [ht, e, e2]
    rw [if_neg hn]
    have ht2 := textOf_some (v := k) (n := Dx.tText)
    by_cases h2 : (Dx.textOf k Dx.tText).isSome = true
    · rw [if_pos h2] at ht2
      rw [ht2]
      simp only [Option.isSome_some, Bool.and_true, Bool.and_eq_true, decide_eq_true_eq]
    · rw [if_neg h2] at ht2
      rw [ht2]
      simp
end Go.Proofs.YtejlddimokmgjaaGreatDoor
namespace Go.Proofs.YtejlddimokmgjaaGreatDoor
open Go.RowKit

theorem infoQ : (Tryz.prog.info? 26).map (fun i => (i.zero, i.size, i.bytes)) = some (some (.agg #[.int .i64 0, .string ⟨#[]⟩, .slice none 0 0, .slice none 0 0, .slice none 0 0]), 5, 96) := by kernel_rfl

/-- What 'node' hands back: a query in new memory, and whether it is one. -/
def NodePost (r : Option Dx.Qy) (w : World) (e : Ending) (w' : World) : Prop :=
  ∃ (q : Dx.Qy) (cs : List Value), e = .returned (.tuple #[.agg cs.toArray, .bool r.isSome]) ∧ QyAt w' (fun g => w.heap.size ≤ g) q cs ∧ (∀ p, r = some p → q = p) ∧ Below w.heap.size w w'

theorem allQ_snoc (f : Cx.J → Option Dx.Qy) (k : Cx.J) : ∀ l : List Cx.J, Dx.allQ f (l ++ [k]) = match Dx.allQ f l, f k with
    | some r, some q => some (r ++ [q])
    | _, _ => none
  | [] => by
    simp only [List.nil_append, Dx.allQ]
    cases f k <;> rfl
  | a :: l => by
    simp only [List.cons_append, Dx.allQ, allQ_snoc f k l]
    cases f a <;> cases Dx.allQ f l <;> cases f k <;> rfl

/-- While queries are gathered: the loop began at heap size B; the block bf, older than that, is a box of a bool. -/
structure LI (bf : Nat) (w0 : World) (f : Bool) (qs : List Dx.Qy) (sv : Value) (css : List (List Value)) (w : World) : Prop where
  lt : bf < w0.heap.size
  mv : Mv bf w0 w
  box : w.heap[bf]? = some (.cells #[.bool f] 4 (0, 0))
  own : w.ownsRow w0.heap.size 26 5 sv qs.length css.flatten
  kids : QysAt w (fun g => w0.heap.size ≤ g ∧ some g ≠ sv.ownBlock) qs css

theorem LI.start {bf : Nat} {w0 : World} {f : Bool} (hb : w0.heap[bf]? = some (.cells #[.bool f] 4 (0, 0))) : LI bf w0 f [] (.slice none 0 0) [] w0 where
  lt := heap_lt hb
  mv := Mv.refl _ _
  box := hb
  own := World.ownsRow_nil _ _ _ _
  kids := by unfold QysAt; rfl

/-- What lies behind it may be made anew. -/
theorem LI.below {bf : Nat} {w0 : World} {f : Bool} {qs : List Dx.Qy} {sv : Value} {css : List (List Value)} {w w' : World} (h : LI bf w0 f qs sv css w) (k : Below w.heap.size w w') : LI bf w0 f qs sv css w' where
  lt := h.lt
  mv := h.mv.below k
  box := (k.block _ (heap_lt h.box)).trans h.box
  own := h.own.kept (row := none) ⟨k.os, k.tape, k.output, k.size, fun i hi _ => k.block i hi⟩ (by
    rcases hs : sv.ownBlock with _ | x
    · exact .inl rfl
    · right; simp)
  kids := QysAt.kept k.size (fun g hg hl => ⟨k.block g hl, hg⟩) _ _ h.kids

/-- The box is written. -/
theorem LI.put {bf : Nat} {w0 : World} {f : Bool} {qs : List Dx.Qy} {sv : Value} {css : List (List Value)} {w : World} (h : LI bf w0 f qs sv css w) (f' : Bool) : LI bf w0 f' qs sv css (w.setCell ⟨bf, 0, none⟩ (.bool f')) := by
  have hlt := h.lt
  refine ⟨h.lt, h.mv.set (.inl rfl) _, ?_, ?_, ?_⟩
  · have := h.box
    simp [World.setCell, Array.getElem?_modify, this]
  · refine h.own.kept (row := some bf) ⟨rfl, rfl, rfl, by simp [World.setCell], fun k _ hk => Below.heap_setCell _ _ _ _ (fun e => hk (by simp [e]))⟩ ?_
    right
    intro e
    have := h.own.lt bf e
    omega
  · refine QysAt.kept (by simp [World.setCell]) (fun g hg hl => ⟨?_, hg⟩) _ _ h.kids
    rw [Below.heap_setCell _ _ _ _ (by show g ≠ bf; omega)]

/-- A query has been appended. -/
theorem LI.add {bf : Nat} {w0 : World} {f : Bool} {qs : List Dx.Qy} {sv : Value} {css : List (List Value)} {w w3 : World} {q : Dx.Qy} {c : List Value} {B g cap : Nat}
    (h : LI bf w0 f qs sv css w) (hB : w0.heap.size ≤ B) (hk : QyAt w (fun g => B ≤ g ∧ some g ≠ sv.ownBlock) q c)
    (hown : w3.ownsRow w0.heap.size 26 5 (.slice (some ⟨g, 0, none⟩) (qs.length + 1) cap) (qs.length + 1) (css.flatten ++ c)) (hgrow : w.grownBy w3 sv.ownBlock) (hg : sv.ownBlock = some g ∨ g = w.heap.size) :
    LI bf w0 f (qs ++ [q]) (.slice (some ⟨g, 0, none⟩) (qs.length + 1) cap) (css ++ [c]) w3 := by
  have hlt := h.lt
  have hl2 : ∀ k, sv.ownBlock = some k → w0.heap.size ≤ k ∧ k < w.heap.size := h.own.lt
  have hs := h.mv.size
  refine ⟨h.lt, ?_, ?_, ?_, ?_⟩
  · refine ⟨hgrow.os.trans h.mv.os, hgrow.tape.trans h.mv.tape, hgrow.output.trans h.mv.output, Nat.le_trans hs hgrow.size, fun i hi hn => ?_⟩
    exact (hgrow.block i (by omega) (fun e => by have := hl2 _ e.symm; omega)).trans (h.mv.block i hi hn)
  · rw [hgrow.block bf (heap_lt h.box) (fun e => by have := hl2 _ e.symm; omega)]; exact h.box
  · simpa using hown
  · refine QysAt.snoc ?_ ?_
    · refine QyAt.kept hgrow.size (fun x hx hl => ⟨hgrow.block x hl hx.2, by omega, ?_⟩) _ _ hk
      simp only [Value.ownBlock, ne_eq, Option.some.injEq]
      rintro rfl
      rcases hg with e | e
      · exact hx.2 e.symm
      · omega
    · refine QysAt.kept hgrow.size (fun x hx hl => ⟨hgrow.block x hl hx.2, hx.1, ?_⟩) _ _ h.kids
      simp only [Value.ownBlock, ne_eq, Option.some.injEq]
      rintro rfl
      rcases hg with e | e
      · exact hx.2 e.symm
      · omega
end Go.Proofs.YtejlddimokmgjaaGreatDoor
