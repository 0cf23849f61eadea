/- WALKS: the law DslLines. -/
import Derived.Test.YtejlddimokmgjaaGreatDoorZDpg
import Derived.Test.YtejlddimokmgjaaGreatDoorZDap
namespace Go.Proofs.YtejlddimokmgjaaGreatDoor
open Go.RowKit

theorem bulk_err {s : List UInt8} {n : Nat} (h : Dx.bulk s = .error n) : bulkE s = n ∧ bulkO s = [] := by unfold bulkE bulkO; rw [h]; exact ⟨rfl, rfl⟩
theorem bulk_ok {s : List UInt8} {l : List Dx.Op} (h : Dx.bulk s = .ok l) : bulkE s = 0 ∧ bulkO s = l := by unfold bulkE bulkO; rw [h]; exact ⟨rfl, rfl⟩
theorem bulkL_errs : ∀ (l : List (List UInt8)) (n : Nat), Dx.bulkL l = .error n → n = 7 ∨ n = 18
  | [], n, h => by cases h
  | a :: l, n, h => by
    have ih := bulkL_errs l
    unfold Dx.bulkL at h
    split at h
    · exact ih n h
    · split at h
      · injection h with h; exact .inl h.symm
      · split at h
        · injection h with h; exact .inr h.symm
        · split at h
          · rename_i e he; injection h with h; subst h; exact ih _ he
          · cases h
theorem bulk_errs {s : List UInt8} {n : Nat} (h : Dx.bulk s = .error n) : n = 7 ∨ n = 18 := bulkL_errs _ n h
theorem bulkL_length : ∀ (l : List (List UInt8)) (x : List Dx.Op), Dx.bulkL l = .ok x → x.length ≤ l.length
  | [], x, h => by injection h with h; subst h; exact Nat.le_refl _
  | a :: l, x, h => by
    have ih := bulkL_length l
    unfold Dx.bulkL at h
    split at h
    · exact Nat.le_succ_of_le (ih x h)
    · split at h
      · cases h
      · split at h
        · cases h
        · split at h
          · cases h
          · rename_i t he
            injection h with h; subst h
            have := ih _ he
            simp; omega
theorem bulk_length {s : List UInt8} {x : List Dx.Op} (h : Dx.bulk s = .ok x) : x.length ≤ s.length + 1 := Nat.le_trans (bulkL_length _ x h) (lines_length s)
theorem opsCells_one (l : List Dx.Op) : ∀ u ∈ opsCells l, u.oneCell' = true := by
  intro u hu
  unfold opsCells at hu
  obtain ⟨o, _, ho⟩ := List.mem_flatMap.1 hu
  simp only [opCells, List.mem_cons, List.not_mem_nil, or_false] at ho
  rcases ho with rfl | rfl | rfl <;> rfl
theorem opsCells_length (l : List Dx.Op) : (opsCells l).length = l.length * 3 := by
  induction l with
  | nil => rfl
  | cons a l ih => simp only [opsCells, List.flatMap_cons, List.length_append, List.length_cons] at ih ⊢; rw [ih]; simp [opCells]; omega
theorem opsCells_app (a b : List Dx.Op) : opsCells (a ++ b) = opsCells a ++ opsCells b := by simp [opsCells]

set_option maxRecDepth 100000 in
set_option maxHeartbeats 4000000 in
theorem lines_out (s t : List UInt8) (w : World) (hg : GlbD w) (h8 : 8 ≤ w.heap.size) (ho : 3000 < s.length ∨ 3000 < t.length) :
    Calls Tryz.prog 4 #[.string ⟨s.toArray⟩, .string ⟨t.toArray⟩] w (LawPost w) := by
  have HG := Lib.hid hg
  have hss := size_bytes s; have hts := size_bytes t
  have hc : (3000 : Int) < s.length ∨ (¬ (3000 : Int) < s.length ∧ (3000 : Int) < t.length) := by omega
  clear hg ho
  rcases hc with h1 | ⟨h1, h2⟩
  all_goals
    go_enter Tryz.func4, Tryz.ntmps4
    go_wp2_with fail
    refine (shown_calls w HG.out h8).mono ?_
    rintro e w2 ⟨rfl, k⟩
    have K := Lib.hid k
    clear k
    go_wp2_with fail
    go_ret
    exact ⟨rfl, K.out⟩

set_option maxRecDepth 100000 in
set_option maxHeartbeats 4000000 in
theorem lines_main (s t : List UInt8) (w : World) (hg : GlbD w) (h8 : 8 ≤ w.heap.size) (h1 : ¬ (3000 : Int) < s.length) (h2 : ¬ (3000 : Int) < t.length) :
    Calls Tryz.prog 4 #[.string ⟨s.toArray⟩, .string ⟨t.toArray⟩] w (LawPost w) := by
  have HG := Lib.hid hg
  have hss := size_bytes s; have hts := size_bytes t
  have hb := Dx.bulk_app s t
  obtain ⟨S, hS⟩ : ∃ S, S = s ++ 10 :: t := ⟨_, rfl⟩
  rw [← hS] at hb
  have hcat : (((⟨s.toArray⟩ : ByteArray) ++ ⟨#[10]⟩) ++ ⟨t.toArray⟩) = ⟨S.toArray⟩ := by
    rw [hS]; simp [ByteArray.ext_iff, ByteArray.data_append]
  have hSl : S.length ≤ 6001 := by rw [hS]; simp; omega
  have HC := Lib.hid hcat; have HB := Lib.hid hb; have HSL := Lib.hid hSl
  clear hg hb hS hcat hSl
  go_enter Tryz.func4, Tryz.ntmps4
  go_wp2_with fail
  refine (shown_calls w HG.out h8).mono ?_
  rintro e w1 ⟨rfl, k⟩
  have B1 := Lib.hid k
  clear k
  go_wp2_with fail
  refine (bulk_calls s w1 (HG.out.below B1.out) (Nat.le_trans h8 B1.out.size) (by omega)).mono ?_
  rintro e w2 ⟨sv1, rfl, o1, k⟩
  obtain ⟨a1, c1, rfl⟩ := ORow.shape o1
  have B2 := Lib.hid (B1.out.trans (k.mono B1.out.size))
  have O1 := Lib.hid (ORow.all o1)
  clear o1 k B1
  obtain ⟨e1, he1⟩ : ∃ e1, e1 = bulkE s := ⟨_, rfl⟩
  obtain ⟨x1, hx1⟩ : ∃ x1, x1 = bulkO s := ⟨_, rfl⟩
  rw [← hx1] at O1 ⊢
  rw [← he1]
  have E1 := Lib.hid (And.intro he1 hx1)
  clear he1 hx1
  go_wp2_with fail
  refine (bulk_calls t w2 (HG.out.below B2.out) (Nat.le_trans h8 B2.out.size) (by omega)).mono ?_
  rintro e w3 ⟨sv2, rfl, o2, k⟩
  obtain ⟨a2, c2, rfl⟩ := ORow.shape o2
  have B3 := Lib.hid (B2.out.trans (k.mono B2.out.size))
  have O1b := Lib.hid (ORow.all (O1.out.below k))
  have O2 := Lib.hid (ORow.all o2)
  clear o2 k B2 O1
  obtain ⟨e2, he2⟩ : ∃ e2, e2 = bulkE t := ⟨_, rfl⟩
  obtain ⟨x2, hx2⟩ : ∃ x2, x2 = bulkO t := ⟨_, rfl⟩
  rw [← hx2] at O2 ⊢
  rw [← he2]
  have E2 := Lib.hid (And.intro he2 hx2)
  clear he2 hx2
  go_wp2_with fail
  rw [HC.out]
  refine (bulk_calls S w3 (HG.out.below B3.out) (Nat.le_trans h8 B3.out.size) (Nat.le_trans HSL.out (by decide))).mono ?_
  rintro e w4 ⟨sv3, rfl, o3, k⟩
  obtain ⟨a3, c3, rfl⟩ := ORow.shape o3
  have B4 := Lib.hid (B3.out.trans (k.mono B3.out.size))
  have O1 := Lib.hid (ORow.all (O1b.out.below k)); have O2b := Lib.hid (ORow.all (O2.out.below k))
  have O3 := Lib.hid (ORow.all o3)
  clear o3 k B3 O1b O2
  cases hs : Dx.bulk s with
  | error n =>
    have hn := bulk_errs hs
    have hb := HB.out
    rw [hs] at hb
    have q1 := E1.out
    rw [(bulk_err hs).1, (bulk_err hs).2] at q1
    rw [(bulk_err hb).1, (bulk_err hb).2]
    obtain ⟨rfl, rfl⟩ := q1
    have hn0 : ((e1 : Int) != 0) = true := by rw [bne_iff_ne]; omega
    clear hs hn hb HB HC E2 HSL
    go_wp2_with fail
    go_ret
    exact ⟨by simp, B4.out⟩
  | ok l1 =>
    have q1 := E1.out
    rw [(bulk_ok hs).1, (bulk_ok hs).2] at q1
    obtain ⟨rfl, rfl⟩ := q1
    cases ht : Dx.bulk t with
    | error n =>
      have hn := bulk_errs ht
      have hb := HB.out
      rw [hs, ht] at hb
      have q2 := E2.out
      rw [(bulk_err ht).1, (bulk_err ht).2] at q2
      have hb : Dx.bulk S = .error n := hb
      rw [(bulk_err hb).1, (bulk_err hb).2]
      obtain ⟨rfl, rfl⟩ := q2
      have hn0 : ((e2 : Int) != 0) = true := by rw [bne_iff_ne]; omega
      clear hs ht hn hb HB HC HSL E1
      go_wp2_with fail
      go_ret
      exact ⟨by simp, B4.out⟩
    | ok l2 =>
      have hb := HB.out
      rw [hs, ht] at hb
      have hb : Dx.bulk S = .ok (x1 ++ l2) := hb
      have q2 := E2.out
      rw [(bulk_ok ht).1, (bulk_ok ht).2] at q2
      have hl1 := bulk_length hs; have hl2 := bulk_length ht
      have hb3 := (bulk_ok hb).2
      rw [hb3] at O3
      rw [(bulk_ok hb).1, hb3]
      obtain ⟨rfl, rfl⟩ := q2
      have hx1l : x1.length ≤ 3001 := by omega
      have hx2l : x2.length ≤ 3001 := by omega
      clear hs ht hb HB HC HSL E1 E2 hb3 hl1 hl2
      have O3b := Lib.hid (show ORow w4 (fun g => g < w4.heap.size) (.slice a3 (x1.length + x2.length) c3) (x1 ++ x2) from by
        have h := O3.out
        rw [List.length_append] at h
        exact h)
      clear hb O3
      obtain ⟨i0, hi0, hz0, hz1, hz2⟩ := info_parts infoOp
      have OWN0 := Lib.hid (World.ownsRow_lit (base := w4.heap.size) (size := 3) (e := 64) w4 #[] 0 (Nat.le_refl _) (by unfold maxLen; omega) rfl)
      have RW1 := Lib.hid (Row.kept (ok' := fun _ => True) O1.out (w' := w4.alloc (.cells #[] 64)) (by simp) (fun g _ hl => ⟨Below.heap_alloc _ _ _ hl, trivial⟩))
      have LB1 := Lib.hid (show w4.heap.size ≤ (w4.alloc (.cells #[] 64)).heap.size by simp)
      have AL := Lib.hid (show Below w4.heap.size w4 (w4.alloc (.cells #[] 64)) from (Below.refl _ _).alloc (Nat.le_refl _) _)
      go_wp2_with (first
        | (at_builtin; refine wpList_append_row_g _ (by rfl) _ _ 31 rfl w4.heap.size 64 i0 _ 3 40 Tryz.underlying31 hi0 hz0 hz1 hz2 rfl (by decide) _ 0 [] rfl OWN0.out (.slice a1 x1.length c1) x1.length (opsCells x1) _ rfl RW1.out (opsCells_length x1) (opsCells_one x1) (by unfold maxLen; omega) (by omega) LB1.out ?_; intro v5 w5 hown5 hgrow5 hat5; have AL5 := Lib.hid (AL.out.grown hgrow5 LB1.out (fun g hg => (OWN0.out.lt g hg).1)); have OWN5 := Lib.hid hown5; have RW5 := Lib.hid (Row.kept (ok' := fun _ => True) O2b.out (w' := w5) AL5.out.size (fun g hg _ => ⟨AL5.out.block g hg, trivial⟩)); have LB5 := Lib.hid (show w4.heap.size ≤ w5.heap.size from AL5.out.size); clear hown5 hgrow5 hat5)
        | (at_builtin; refine wpList_append_row_g _ (by rfl) _ _ 31 rfl w4.heap.size 64 i0 _ 3 40 Tryz.underlying31 hi0 hz0 hz1 hz2 rfl (by decide) _ (0 + x1.length) ([] ++ opsCells x1) rfl OWN5.out (.slice a2 x2.length c2) x2.length (opsCells x2) _ rfl RW5.out (opsCells_length x2) (opsCells_one x2) (by unfold maxLen; omega) (by omega) LB5.out ?_; intro v6 w6 hown6 hgrow6 hat6; have AL6 := Lib.hid (AL5.out.grown hgrow6 LB5.out (fun g hg => (OWN5.out.lt g hg).1)); have OWN6 := Lib.hid hown6; clear hown6 hgrow6 hat6))
      have R6 := Lib.hid (show ORow w6 (fun _ => True) v6 (x1 ++ x2) from by
        have := Row.of_own (ok := fun _ => True) OWN6.out (fun _ _ => trivial)
        unfold ORow
        rw [opsCells_app, List.length_append]
        simpa using this)
      have O6 := Lib.hid (ORow.all (O3b.out.below AL6.out))
      have B6 := Lib.hid (B4.out.trans (AL6.out.mono B4.out.size))
      refine (sameOps_calls (x1 ++ x2) (x1 ++ x2) _ _ w6 _ _ (by rw [List.length_append]; omega) O6.out R6.out).mono ?_
      rintro e w7 ⟨r, rfl, hr, k⟩
      obtain rfl : r = true := hr.2 rfl
      have B7 := Lib.hid (B6.out.trans (k.mono B6.out.size))
      clear hr k
      go_wp2_with fail
      go_ret
      exact ⟨rfl, B7.out⟩

theorem lines_calls (s t : List UInt8) (w : World) (hg : GlbD w) (h8 : 8 ≤ w.heap.size) :
    Calls Tryz.prog 4 #[.string ⟨s.toArray⟩, .string ⟨t.toArray⟩] w (LawPost w) := by
  by_cases ho : 3000 < s.length ∨ 3000 < t.length
  · exact lines_out s t w hg h8 ho
  · exact lines_main s t w hg h8 (by omega) (by omega)
end Go.Proofs.YtejlddimokmgjaaGreatDoor
