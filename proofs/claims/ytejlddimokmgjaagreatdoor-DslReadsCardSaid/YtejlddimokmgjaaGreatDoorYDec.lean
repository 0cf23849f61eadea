/- WALKS: codexref21's list. -/
import Derived.Test.YtejlddimokmgjaaGreatDoorYDeb
import Derived.Test.YtejlddimokmgjaaGreatDoorKi
import Derived.Test.YtejlddimokmgjaaGreatDoorYDsd
import Derived.Test.YtejlddimokmgjaaGreatDoorKk
namespace Go.Proofs.YtejlddimokmgjaaGreatDoor
open Go.RowKit

/-- Queries are gathered in new memory (from heap size B on). -/
structure QG (B : Nat) (qs : List Dx.Qy) (sv : Value) (css : List (List Value)) (w : World) : Prop where
  sz : B ≤ w.heap.size
  own : w.ownsRow B 26 5 sv qs.length css.flatten
  kids : QysAt w (fun g => B ≤ g ∧ some g ≠ sv.ownBlock) qs css
theorem QG.start (w : World) : QG w.heap.size [] (.slice none 0 0) [] w := ⟨Nat.le_refl _, World.ownsRow_nil _ _ _ _, by unfold QysAt; rfl⟩
theorem QG.below {B : Nat} {qs : List Dx.Qy} {sv : Value} {css : List (List Value)} {w w' : World} (h : QG B qs sv css w) (k : Below w.heap.size w w') : QG B qs sv css w' where
  sz := Nat.le_trans h.sz k.size
  own := h.own.kept (row := none) ⟨k.os, k.tape, k.output, k.size, fun i hi _ => k.block i hi⟩ (by
    rcases hs : sv.ownBlock with _ | x
    · exact .inl rfl
    · right; simp)
  kids := QysAt.kept k.size (fun g hg hl => ⟨k.block g hl, hg⟩) _ _ h.kids
theorem QG.add {B : Nat} {qs : List Dx.Qy} {sv : Value} {css : List (List Value)} {w w3 : World} {q : Dx.Qy} {c : List Value} {g cap : Nat}
    (h : QG B qs sv css w) (hk : QyAt w (fun g => B ≤ g ∧ some g ≠ sv.ownBlock) q c)
    (hown : w3.ownsRow B 26 5 (.slice (some ⟨g, 0, none⟩) (qs.length + 1) cap) (qs.length + 1) (css.flatten ++ c)) (hgrow : w.grownBy w3 sv.ownBlock) (hg : sv.ownBlock = some g ∨ g = w.heap.size) :
    QG B (qs ++ [q]) (.slice (some ⟨g, 0, none⟩) (qs.length + 1) cap) (css ++ [c]) w3 := by
  refine ⟨Nat.le_trans h.sz hgrow.size, by simpa using hown, ?_⟩
  refine QysAt.snoc ?_ ?_
  · refine QyAt.kept hgrow.size (fun x hx hl => ⟨hgrow.block x hl hx.2, hx.1, ?_⟩) _ _ hk
    simp only [Value.ownBlock, ne_eq, Option.some.injEq]
    rintro rfl
    rcases hg with e | e
    · exact hx.2 e.symm
    · omega
  · refine QysAt.kept hgrow.size (fun x hx hl => ⟨hgrow.block x hl hx.2, hx.1, ?_⟩) _ _ h.kids
    simp only [Value.ownBlock, ne_eq, Option.some.injEq]
    rintro rfl
    rcases hg with e | e
    · exact hx.2 e.symm
    · omega
theorem QG.row {B : Nat} {qs : List Dx.Qy} {sv : Value} {css : List (List Value)} {w : World} (h : QG B qs sv css w) : QRow w (fun g => B ≤ g) sv qs :=
  ⟨css, QysAt.kept (Nat.le_refl _) (fun _ hg _ => ⟨rfl, hg.1⟩) _ _ h.kids, Row.of_own h.own (fun _ hg => (h.own.lt _ hg).1)⟩

/-- What codexref21's 'query' hands back. -/
def RQPost (v : Cx.J) (w : World) (e : Ending) (w' : World) : Prop :=
  ∃ (q : Dx.Qy) (cs : List Value), e = .returned (.tuple #[.agg cs.toArray, .bool (Dx.nodeQ v).isSome]) ∧ QyAt w' (fun g => w.heap.size ≤ g) q cs ∧ (∀ p, Dx.nodeQ v = some p → q = p) ∧ Dx.qfit maxLen q ∧ Below w.heap.size w w'
/-- What codexref21's 'list' hands back. -/
def RLPost (v : Cx.J) (n : List UInt8) (w : World) (e : Ending) (w' : World) : Prop :=
  ∃ (sv : Value) (qs : List Dx.Qy), e = .returned (.tuple #[sv, .bool (Dx.listQ Dx.nodeQ v n).isSome]) ∧ QRow w' (fun g => w.heap.size ≤ g) sv qs ∧ (∀ l, Dx.listQ Dx.nodeQ v n = some l → qs = l) ∧ Dx.qfitK maxLen qs ∧ Below w.heap.size w w'
theorem QRow.nil {w : World} {ok : Nat → Prop} : QRow w ok (.slice none 0 0) [] := ⟨[], by unfold QysAt; rfl, .inl ⟨rfl, rfl, none, 0, rfl⟩⟩
theorem allQ_bad {f : Cx.J → Option Dx.Qy} {y : Cx.J} : ∀ {l : List Cx.J}, y ∈ l → f y = none → Dx.allQ f l = none
  | a :: l, h, hy => by
    rcases List.mem_cons.1 h with rfl | h
    · simp [Dx.allQ, hy]
    · have := allQ_bad h hy
      simp only [Dx.allQ, this]
      cases f a <;> rfl

set_option maxRecDepth 100000 in
set_option maxHeartbeats 4000000 in
theorem rlist_calls (v : Cx.J) (cs : List Value) (n : List UInt8) (w : World) (ok : Nat → Prop) (hj : JAt w ok v cs) (hf : fit 100000 v)
    (ih : ∀ k, Cx.get v n = some k → ∀ x ∈ k.kids, ∀ (cs : List Value) (wr : World) (ok : Nat → Prop), JAt wr ok x cs → Calls Tryz.prog 41 #[.agg cs.toArray] wr (RQPost x wr)) :
    Calls Tryz.prog 130 #[.agg cs.toArray, .string ⟨n.toArray⟩] w (RLPost v n w) := by
  cases v with
  | mk k is t ns ks =>
  have hj := hj.all
  obtain ⟨a, nc, a', kc, rfl⟩ := hj.shape
  obtain ⟨V, hV⟩ : ∃ V, V = Cx.J.mk k is t ns ks := ⟨_, rfl⟩
  rw [← hV] at hj hf ih ⊢
  have J := Lib.hid hj; have F := Lib.hid hf; have IH := Lib.hid ih
  have HB1 := Lib.hid ((Below.refl w.heap.size w).alloc (Nat.le_refl _) (.cells #[.int .i64 k, .bool is, .string ⟨t.toArray⟩, .slice a ns.length nc, .slice a' ks.length kc] 48))
  clear hj hf hV ih
  go_enter Tryz.func130, Tryz.ntmps130
  go_wp2_with fail
  refine (get2_calls V [.int .i64 k, .bool is, .string ⟨t.toArray⟩, .slice a ns.length nc, .slice a' ks.length kc] n _ _ (J.out.below HB1.out) (to_maxLen F.out)).mono ?_
  rintro e w5 ⟨cs, rfl, hj, hb⟩
  have HB := Lib.hid (HB1.out.trans (hb.mono HB1.out.size))
  cases hg : Cx.get V n with
  | none =>
    rw [hg] at hj
    obtain ⟨b, nc2, b', kc2, rfl⟩ := hj.shape
    have HN := Lib.hid (show Dx.listQ Dx.nodeQ V n = some [] by unfold Dx.listQ; rw [hg])
    clear hj hb hg
    simp only [Option.isSome_none]
    go_wp2_with fail
    go_ret2
    exact ⟨.slice none 0 0, [], by rw [HN.out]; rfl, QRow.nil, fun y h => by rw [HN.out] at h; injection h, by simp [Dx.qfitK], HB.out.alloc HB.out.size _⟩
  | some x =>
    rw [hg] at hj
    have FX := Lib.hid (Dx.get_fit F.out hg)
    have IHX := Lib.hid (IH.out x hg)
    have HN := Lib.hid (show Dx.listQ Dx.nodeQ V n = (match Dx.allQ Dx.nodeQ x.kids with | some l => if x.kind = 5 then some l else none | none => none) by unfold Dx.listQ; rw [hg]; rfl)
    simp only [Option.getD_some, Option.isSome_some] at hj ⊢
    cases x with
    | mk k2 is2 t2 ns2 ks2 =>
    obtain ⟨b, nc2, b', kc2, rfl⟩ := hj.shape
    have hkl : ks2.length ≤ 100000 := FX.out.2.2.2.1
    by_cases h5 : k2 = 5
    rotate_left
    · have hk5 : (k2 != 5) = true := by simpa using h5
      have HM := Lib.hid (show Dx.listQ Dx.nodeQ V n = none by rw [HN.out]; simp only [Cx.J.kind, Cx.J.kids]; cases Dx.allQ Dx.nodeQ ks2 <;> simp [h5])
      clear hj hb hg HN
      go_wp2_with fail
      go_ret2
      exact ⟨.slice none 0 0, [], by rw [HM.out]; rfl, QRow.nil, fun y h => (by rw [HM.out] at h; cases h), by simp [Dx.qfitK], HB.out.alloc HB.out.size _⟩
    subst h5
    have HM := Lib.hid (show Dx.listQ Dx.nodeQ V n = Dx.allQ Dx.nodeQ ks2 by rw [HN.out]; simp only [Cx.J.kind, Cx.J.kids]; cases Dx.allQ Dx.nodeQ ks2 <;> rfl)
    obtain ⟨g6, hg6⟩ : ∃ g, g = w5.heap.size := ⟨_, rfl⟩
    obtain ⟨W6, hW6⟩ : ∃ x, x = w5.alloc (.cells #[.int .i64 5, .bool is2, .string ⟨t2.toArray⟩, .slice b ns2.length nc2, .slice b' ks2.length kc2] 48) := ⟨_, rfl⟩
    have c6 : Below w5.heap.size w5 W6 := by rw [hW6]; exact (Below.refl _ _).alloc (Nat.le_refl _) _
    have J6 := Lib.hid (hj.all.below c6).all
    have B6 := Lib.hid (HB.out.trans (c6.mono HB.out.size))
    have BX6 := Lib.hid (show W6.heap[g6]? = some (.cells #[.int .i64 5, .bool is2, .string ⟨t2.toArray⟩, .slice b ns2.length nc2, .slice b' ks2.length kc2] 48 (0, 0)) by rw [hW6, hg6]; exact heap_alloc_new w5 _)
    have HW6 := Lib.hid (And.intro hg6 hW6)
    clear hj hb hg c6 hg6 hW6 HN
    go_upto_region 4 with fail
    rw [← HW6.out.1, ← HW6.out.2]
    clear HW6
    obtain ⟨q0, q1, q2, q3, q4, _⟩ := cells5 BX6.out
    go_wp2_with fail
    clear q0 q1 q2 q3 q4
    go_loopg [8, 9] (ks2.length) (fun g sv z wr => ∃ (i : Nat) (qs : List Dx.Qy) (css : List (List Value)), z = .int .i64 i ∧ g = ks2.length - i ∧ i ≤ ks2.length ∧ qs.length = i ∧ Hid (QG W6.heap.size qs sv css wr) ∧ Hid (Dx.allQ Dx.nodeQ (ks2.take i) = some qs) ∧ Hid (Dx.qfitK maxLen qs) ∧ Hid (Below W6.heap.size W6 wr))
    case atStart => exact ⟨0, [], [], rfl, rfl, Nat.zero_le _, rfl, Lib.hid (QG.start _), Lib.hid (by simp [Dx.allQ]), Lib.hid (by simp [Dx.qfitK]), Lib.hid (Below.refl _ _)⟩
    case round =>
      obtain ⟨i, qs, css, rfl, hq, hi, hql, HQG, HAQ, HQF, BI⟩ := hrel
      have HQ := Lib.hid hq; have HQL := Lib.hid hql
      clear hq hql
      obtain ⟨q0, q1, q2, q3, q4, _⟩ := cells5 ((BI.out.block _ (heap_lt BX6.out)).trans BX6.out)
      obtain ⟨sa, sn, sc, rfl⟩ := own_shape HQG.out.own
      rcases Nat.lt_or_ge i ks2.length with hlt | hge
      · obtain ⟨y, hy⟩ : ∃ y, ks2[i]? = some y := ⟨ks2[i], by simp [hlt]⟩
        obtain ⟨g, o, cap, hv, _, hgl, kb0, kb1, kb2, kb3, hkj, b0, b1, b2, b3, b4⟩ := (J6.out.below BI.out).kid' hy
        injection hv with ha _ hc
        subst ha hc
        have KJ := Lib.hid hkj.all; have HY := Lib.hid hy
        have hnx := allQ_snoc Dx.nodeQ y (ks2.take i)
        rw [show ks2.take i ++ [y] = ks2.take (i + 1) by rw [List.take_add_one, hy]; rfl, HAQ.out] at hnx
        have HNX := Lib.hid hnx
        clear hkj hy hnx
        go_wp2_with fail
        refine (IHX.out y (List.mem_of_getElem? HY.out) [.int .i64 y.kind, .bool y.is, .string ⟨y.text.toArray⟩, .slice kb0 y.names.length kb1, .slice kb2 y.kids.length kb3] wr _ KJ.out).mono ?_
        rintro e w7 ⟨q, qcs, rfl, hqa, hqp, hqf, hb7⟩
        obtain ⟨Q, hQ⟩ : ∃ Q, Q = q := ⟨_, rfl⟩
        obtain ⟨xk, xt, A, B, C⟩ := q
        obtain ⟨s1, s2, s3, rfl, r1, r2, r3⟩ := hqa.rows
        obtain ⟨xa1, xc1, rfl⟩ := r1.shape
        obtain ⟨xa2, xc2, rfl⟩ := r2.shape
        obtain ⟨xa3, xc3, rfl⟩ := r3.shape
        rw [← hQ] at hqa hqp hqf
        clear r1 r2 r3 hQ q0 q1 q2 q3 q4 b0 b1 b2 b3 b4
        cases hno : Dx.nodeQ y with
        | none =>
          have HM2 := Lib.hid (show Dx.listQ Dx.nodeQ V n = none by rw [HM.out]; exact allQ_bad (List.mem_of_getElem? HY.out) hno)
          have B9 := Lib.hid (B6.out.trans ((BI.out.trans (hb7.mono BI.out.size)).mono B6.out.size))
          clear hqa hqp hqf hb7 hno HNX HM
          simp only [Option.isSome_none]
          go_wp2_with fail
          go_ret2
          exact ⟨.slice none 0 0, [], by rw [HM2.out]; rfl, QRow.nil, fun y h => (by rw [HM2.out] at h; cases h), by simp [Dx.qfitK], B9.out.alloc B9.out.size _⟩
        | some p =>
          obtain rfl : Q = p := hqp p hno
          have HNX2 := Lib.hid (show Dx.allQ Dx.nodeQ (ks2.take (i + 1)) = some (qs ++ [Q]) by rw [HNX.out, hno])
          simp only [Option.isSome_some]
          obtain ⟨g8, hg8⟩ : ∃ g, g = w7.heap.size := ⟨_, rfl⟩
          obtain ⟨W8, hW8⟩ : ∃ x, x = w7.alloc (.cells #[.int .i64 xk, .string ⟨xt.toArray⟩, .slice xa1 A.length xc1, .slice xa2 B.length xc2, .slice xa3 C.length xc3] 26) := ⟨_, rfl⟩
          have c8 : Below w7.heap.size w7 W8 := by rw [hW8]; exact (Below.refl _ _).alloc (Nat.le_refl _) _
          have B78 := Lib.hid (hb7.trans (c8.mono hb7.size))
          have QA8 := Lib.hid (QyAt.kept (w' := W8) (ok' := fun g => wr.heap.size ≤ g) c8.size (fun g hg hl => ⟨c8.block g hl, hg⟩) _ _ hqa)
          have BX8 := Lib.hid (show W8.heap[g8]? = some (.cells #[.int .i64 xk, .string ⟨xt.toArray⟩, .slice xa1 A.length xc1, .slice xa2 B.length xc2, .slice xa3 C.length xc3] 26 (0, 0)) by rw [hW8, hg8]; exact heap_alloc_new w7 _)
          have HW8 := Lib.hid (And.intro hg8 hW8); have HQF1 := Lib.hid hqf
          clear hqa hqp hqf hb7 hno HNX c8 hg8 hW8
          go_upto_region 13 with fail
          rw [← HW8.out.1, ← HW8.out.2]
          clear HW8
          obtain ⟨q0, q1, q2, q3, q4, _⟩ := cells5 BX8.out
          obtain ⟨i0, hi0, hz0, hz1, hz2⟩ := info_parts infoQ
          have QG8 := Lib.hid (HQG.out.below B78.out)
          have OWN := Lib.hid (QG8.out.own.alloc (.cells #[.int .i64 xk, .string ⟨xt.toArray⟩, .slice xa1 A.length xc1, .slice xa2 B.length xc2, .slice xa3 C.length xc3] 26))
          have JO := Lib.hid QA8.out.one
          have NEWS := Lib.hid (World.news_of_block (cs := #[.int .i64 xk, .string ⟨xt.toArray⟩, .slice xa1 A.length xc1, .slice xa2 B.length xc2, .slice xa3 C.length xc3]) (t := 26) (fr := (0, 0)) (heap_alloc_new W8 (.cells #[.int .i64 xk, .string ⟨xt.toArray⟩, .slice xa1 A.length xc1, .slice xa2 B.length xc2, .slice xa3 C.length xc3] 26)))
          have SZ3 := Lib.hid (show W6.heap.size ≤ (W8.alloc (.cells #[.int .i64 xk, .string ⟨xt.toArray⟩, .slice xa1 A.length xc1, .slice xa2 B.length xc2, .slice xa3 C.length xc3] 26)).heap.size by have := QG8.out.sz; simp; omega)
          have hql := HQL.out
          go_wp2_with (at_builtin; refine wpList_append_lies _ rfl _ _ 24 rfl (W6.heap.size) 26 i0 _ 5 96 Tryz.underlying24 hi0 hz0 hz1 hz2 rfl (by decide) (.slice sa sn sc) qs.length css.flatten rfl OWN.out ⟨W8.heap.size, 0, none⟩ 1 1 [.int .i64 xk, .string ⟨xt.toArray⟩, .slice xa1 A.length xc1, .slice xa2 B.length xc2, .slice xa3 C.length xc3] rfl rfl NEWS.out JO.out (by decide) (by unfold maxLen; omega) (by omega) SZ3.out (W8.heap.size + 1) (by simp) ?_; intro gg cap2 w9 hown9 hgrow9 hat9 hlt9)
          have hql2 := hql
          have HQG9 := Lib.hid (show QG W6.heap.size (qs ++ [Q]) (.slice (some ⟨gg, 0, none⟩) (i + 1) cap2) (css ++ [[.int .i64 xk, .string ⟨xt.toArray⟩, .slice xa1 A.length xc1, .slice xa2 B.length xc2, .slice xa3 C.length xc3]]) w9 from by
            have h := (QG8.out.below ((Below.refl W8.heap.size W8).alloc (Nat.le_refl _) (.cells #[.int .i64 xk, .string ⟨xt.toArray⟩, .slice xa1 A.length xc1, .slice xa2 B.length xc2, .slice xa3 C.length xc3] 26))).add (by
              refine QyAt.kept (by simp) (fun g hg hl => ⟨Below.heap_alloc _ _ _ hl, Nat.le_trans HQG.out.sz hg, fun e => ?_⟩) _ _ QA8.out
              have := (HQG.out.own.lt g e.symm).2
              omega) hown9 hgrow9 (by simpa using hat9)
            rw [hql] at h
            exact h)
          have QF9 := Lib.hid (show Dx.qfitK maxLen (qs ++ [Q]) from qfitK_app HQF.out (by unfold Dx.qfitK; exact ⟨HQF1.out, by simp [Dx.qfitK]⟩))
          have B9 := Lib.hid (show Below W6.heap.size W6 w9 from by
            have h1 : Below W6.heap.size W6 (W8.alloc (.cells #[.int .i64 xk, .string ⟨xt.toArray⟩, .slice xa1 A.length xc1, .slice xa2 B.length xc2, .slice xa3 C.length xc3] 26)) := (BI.out.trans (B78.out.mono BI.out.size)).alloc (Nat.le_trans BI.out.size B78.out.size) _
            exact h1.grown hgrow9 h1.size (fun g hg => (HQG.out.own.lt g hg).1))
          clear hown9 hgrow9 hat9 hlt9 q0 q1 q2 q3 q4 OWN JO NEWS SZ3 QG8 QA8 BX8 hi0 hz0 hz1 hz2 hql hql2
          go_wp2_with fail
          go_roundg (ks2.length - (i + 1))
          case measure => have := HQ.out; omega
          case rel => exact ⟨i + 1, qs ++ [Q], _, by go_num, rfl, by omega, by rw [List.length_append, HQL.out]; rfl, HQG9, HNX2, QF9, B9⟩
      · have hik : i = ks2.length := by omega
        have haq := HAQ.out
        rw [hik, List.take_length] at haq
        have HM2 := Lib.hid (show Dx.listQ Dx.nodeQ V n = some qs by rw [HM.out]; exact haq)
        have B9 := Lib.hid (B6.out.trans (BI.out.mono B6.out.size))
        have ROWF := Lib.hid (show QRow wr (fun g => w.heap.size ≤ g) (.slice sa sn sc) qs from by
          obtain ⟨css2, h1, h2⟩ := HQG.out.row
          exact ⟨css2, QysAt.kept (Nat.le_refl _) (fun g hg _ => ⟨rfl, Nat.le_trans B6.out.size hg⟩) _ _ h1, Row.kept h2 (Nat.le_refl _) (fun g hg _ => ⟨rfl, Nat.le_trans B6.out.size hg⟩)⟩)
        clear haq HM HAQ
        go_wp2_with fail
        go_ret2
        exact ⟨.slice sa sn sc, qs, by rw [HM2.out]; rfl, ROWF.out, fun y h => (by rw [HM2.out] at h; injection h), HQF.out, B9.out⟩
end Go.Proofs.YtejlddimokmgjaaGreatDoor
