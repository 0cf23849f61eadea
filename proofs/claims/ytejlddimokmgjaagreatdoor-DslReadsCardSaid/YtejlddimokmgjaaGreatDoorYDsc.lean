/- WALKS: codexref17's kids, deep. -/
import Derived.Test.YtejlddimokmgjaaGreatDoorYDsb
import Derived.Test.YtejlddimokmgjaaGreatDoorYDap
import Derived.Test.YtejlddimokmgjaaGreatDoorKi
import Derived.Deep.RegionHeld3
namespace Go.Proofs.YtejlddimokmgjaaGreatDoor
open Go.RowKit

theorem QysAt.append {w : World} {ok : Nat → Prop} {rs : List Dx.Qy} {ds : List (List Value)} (hr : QysAt w ok rs ds) : ∀ {qs : List Dx.Qy} {css : List (List Value)}, QysAt w ok qs css → QysAt w ok (qs ++ rs) (css ++ ds)
  | [], css, h => by unfold QysAt at h; subst h; exact hr
  | q :: qs, css, h => by
    unfold QysAt at h
    obtain ⟨c, cs, rfl, h1, h2⟩ := h
    show QysAt w ok (q :: (qs ++ rs)) (c :: (cs ++ ds))
    unfold QysAt
    exact ⟨c, cs ++ ds, rfl, h1, QysAt.append hr h2⟩
theorem QysAt.one {w : World} {ok : Nat → Prop} : ∀ {qs : List Dx.Qy} {css : List (List Value)}, QysAt w ok qs css → ∀ u ∈ css.flatten, u.oneCell' = true
  | [], css, h => by unfold QysAt at h; subst h; simp
  | q :: qs, css, h => by
    unfold QysAt at h
    obtain ⟨c, cs, rfl, h1, h2⟩ := h
    intro u hu
    rw [List.flatten_cons] at hu
    rcases List.mem_append.1 hu with hu | hu
    · exact h1.one u hu
    · exact QysAt.one h2 u hu
theorem QysAt.flat {w : World} {ok : Nat → Prop} {qs : List Dx.Qy} {css : List (List Value)} (h : QysAt w ok qs css) : css.flatten.length = qs.length * 5 := by have := h.length.2; omega

set_option maxRecDepth 100000 in
set_option maxHeartbeats 8000000 in
theorem rkids_calls (k : Int) (t : List UInt8) (a b c : List Dx.Qy) (aa ab ac : Option Addr) (ca cb cc : Nat) (w : World) (ok : Nat → Prop) (hl : a.length + b.length + c.length ≤ 1000000) (ra : QRow w ok (.slice aa a.length ca) a) (rb : QRow w ok (.slice ab b.length cb) b) (rc : QRow w ok (.slice ac c.length cc) c) :
    Calls Tryz.prog 106 #[.agg #[.int .i64 k, .string ⟨t.toArray⟩, .slice aa a.length ca, .slice ab b.length cb, .slice ac c.length cc]] w fun e w' => ∃ sv : Value, e = .returned sv ∧ QRow w' (fun g => g < w'.heap.size) sv (a ++ (b ++ c)) ∧ Below w.heap.size w w' := by
  obtain ⟨xa, qa, ra⟩ := ra.all
  obtain ⟨xb, qb, rb⟩ := rb.all
  obtain ⟨xc, qc, rc⟩ := rc.all
  obtain ⟨W, hW⟩ : ∃ W, W = w.alloc (.cells #[.int .i64 k, .string ⟨t.toArray⟩, .slice aa a.length ca, .slice ab b.length cb, .slice ac c.length cc] 26) := ⟨_, rfl⟩
  have HB0 := Lib.hid (show Below w.heap.size w W by rw [hW]; exact (Below.refl _ _).alloc (Nat.le_refl _) _)
  have BQ := Lib.hid (show W.heap[w.heap.size]? = some (.cells #[.int .i64 k, .string ⟨t.toArray⟩, .slice aa a.length ca, .slice ab b.length cb, .slice ac c.length cc] 26 (0, 0)) by rw [hW]; exact heap_alloc_new w _)
  have RA := Lib.hid (show Row W (fun g => g < w.heap.size) (.slice aa a.length ca) a.length xa.flatten from ra.below HB0.out)
  have RB := Lib.hid (show Row W (fun g => g < w.heap.size) (.slice ab b.length cb) b.length xb.flatten from rb.below HB0.out)
  have RC := Lib.hid (show Row W (fun g => g < w.heap.size) (.slice ac c.length cc) c.length xc.flatten from rc.below HB0.out)
  have QA := Lib.hid qa; have QB := Lib.hid qb; have QC := Lib.hid qc
  have HW := Lib.hid hW
  obtain ⟨i0, hi0, hz0, hz1, hz2⟩ := info_parts infoQ
  have OWN0 := Lib.hid (World.ownsRow_lit (base := W.heap.size) (size := 5) (e := 26) W #[] 0 (Nat.le_refl _) (by unfold maxLen; omega) rfl)
  have AL0 := Lib.hid (show Below W.heap.size W (W.alloc (.cells #[] 26)) from (Below.refl _ _).alloc (Nat.le_refl _) _)
  have KEEP := Lib.hid (show ∀ wq, Below W.heap.size W wq → wq.cell? ⟨w.heap.size, 2, none⟩ = some (.slice aa a.length ca) ∧ wq.cell? ⟨w.heap.size, 3, none⟩ = some (.slice ab b.length cb) ∧ wq.cell? ⟨w.heap.size, 4, none⟩ = some (.slice ac c.length cc) from fun wq hq => by
    obtain ⟨_, _, e2, e3, e4, _⟩ := cells5 ((hq.block w.heap.size (heap_lt BQ.out)).trans BQ.out)
    exact ⟨e2, e3, e4⟩)
  have hla : a.length ≤ 1000000 := by omega
  clear ra rb rc qa qb qc hW BQ
  go_enter Tryz.func106, Tryz.ntmps106
  go_upto_region 1 with fail
  rw [← HW.out]
  clear HW
  obtain ⟨y2, y3, y4⟩ := KEEP.out _ (Below.refl W.heap.size W)
  have TW := (Below.refl W.heap.size W).drew
  have TA := AL0.out.drew
  go_wp2_with fail
  go_region_held3 (fun w' => w'.cell? ⟨w.heap.size, 2, none⟩ = some (.slice aa a.length ca) ∧ w'.cell? ⟨w.heap.size, 3, none⟩ = some (.slice ab b.length cb) ∧ w'.cell? ⟨w.heap.size, 4, none⟩ = some (.slice ac c.length cc)) (first | exact KEEP.out _ ‹Below W.heap.size W _›)
    (first
      | (refine step_append_row _ (by rfl) _ _ 24 (by rfl) W.heap.size 26 i0 _ 5 96 Tryz.underlying24 hi0 hz0 hz1 hz2 rfl (by decide) (.slice (some ⟨W.heap.size, 0, none⟩) 0 0) 0 [] (by rfl) OWN0.out (.slice aa a.length ca) a.length xa.flatten (fun _ => True) (by rfl) (Row.kept (ok' := fun _ => True) RA.out AL0.out.size (fun g hg _ => ⟨AL0.out.block g (by have := HB0.out.size; omega), trivial⟩)) QA.out.flat QA.out.one (by unfold maxLen; omega) (by omega) AL0.out.size ?_; intro v5 w5 hown5 hgrow5 hat5; have OWN5 := Lib.hid hown5; have AL5 := AL0.out.drew.grown hgrow5 AL0.out.size (fun g hg => (OWN0.out.lt g hg).1); clear hown5 hgrow5 hat5)
      | (refine step_append_row _ (by rfl) _ _ 24 (by rfl) W.heap.size 26 i0 _ 5 96 Tryz.underlying24 hi0 hz0 hz1 hz2 rfl (by decide) v5 (0 + a.length) ([] ++ xa.flatten) (by rfl) OWN5.out (.slice ab b.length cb) b.length xb.flatten (fun _ => True) (by rfl) (Row.kept (ok' := fun _ => True) RB.out (Below.size AL5) (fun g hg _ => ⟨Below.block AL5 g (by have := HB0.out.size; omega), trivial⟩)) QB.out.flat QB.out.one (by unfold maxLen; omega) (by omega) (Below.size AL5) ?_; intro v6 w6 hown6 hgrow6 hat6; have OWN6 := Lib.hid hown6; have AL6 := Below.grown AL5 hgrow6 (Below.size AL5) (fun g hg => (OWN5.out.lt g hg).1); clear hown6 hgrow6 hat6)
      | (refine step_append_row _ (by rfl) _ _ 24 (by rfl) W.heap.size 26 i0 _ 5 96 Tryz.underlying24 hi0 hz0 hz1 hz2 rfl (by decide) v6 (0 + a.length + b.length) ([] ++ xa.flatten ++ xb.flatten) (by rfl) OWN6.out (.slice ac c.length cc) c.length xc.flatten (fun _ => True) (by rfl) (Row.kept (ok' := fun _ => True) RC.out (Below.size AL6) (fun g hg _ => ⟨Below.block AL6 g (by have := HB0.out.size; omega), trivial⟩)) QC.out.flat QC.out.one (by unfold maxLen; omega) (by omega) (Below.size AL6) ?_; intro v7 w7 hown7 hgrow7 hat7; have OWN7 := Lib.hid hown7; have AL7 := Below.grown AL6 hgrow7 (Below.size AL6) (fun g hg => (OWN6.out.lt g hg).1); clear hown7 hgrow7 hat7))
  all_goals
    try go_wp2_with fail
    go_ret
    have hq : QysAt w7 (fun g => g < w7.heap.size) (a ++ (b ++ c)) (xa ++ (xb ++ xc)) := by
      have hz0 := HB0.out.size; have hz7 := Below.size AL7
      have hk : ∀ g, g < w.heap.size → g < w.heap.size → w7.heap[g]? = w.heap[g]? ∧ g < w7.heap.size := fun g hg _ => ⟨(Below.block AL7 g (by omega)).trans (HB0.out.block g hg), by omega⟩
      exact QysAt.append (QysAt.append (QysAt.kept (by omega) hk _ _ QC.out) (QysAt.kept (by omega) hk _ _ QB.out)) (QysAt.kept (by omega) hk _ _ QA.out)
    have hr := Row.of_own (ok := fun g => g < w7.heap.size) OWN7.out (fun g hg => (OWN7.out.lt g hg).2)
    exact ⟨v7, rfl, ⟨xa ++ (xb ++ xc), hq, by simpa [Nat.add_assoc] using hr⟩, HB0.out.trans (AL7.mono HB0.out.size)⟩
end Go.Proofs.YtejlddimokmgjaaGreatDoor
