/- WALKS: the law HttpGoesOn. -/
import Derived.Test.YthdmdafhldicmaaGreatDoorHsh
import Derived.Test.YthdmdafhldicmaaGreatDoorHn
import Derived.Test.YthdmdafhldicmaaGreatDoorHxGo
namespace Go.Proofs.YthdmdafhldicmaaGreatDoor
open Go.RowKit Go.Maps Go.WideMaps

set_option maxRecDepth 100000 in
set_option maxHeartbeats 4000000 in
theorem goesOn_out (s t : Hx.Bytes) (at_ : Int) (w : World) (hg : Glb w) (ht : Tb w) (h8 : 8 ≤ w.heap.size) (ho : 12000 < s.length ∨ 12000 < t.length) :
    Calls Tryz.prog 3 #[.string ⟨s.toArray⟩, .string ⟨t.toArray⟩, .int .i64 at_] w (LawPost w) := by
  have hz1 := size_list s; have hz2 := size_list t
  have hc : (12000 : Int) < s.length ∨ (¬ (12000 : Int) < s.length ∧ (12000 : Int) < t.length) := by omega
  have HG := Lib.hid hg; have HT := Lib.hid ht
  clear ho hg ht
  go_enter Tryz.func3, Tryz.ntmps3
  go_wp2_with fail
  refine (shown_calls _ HG.out HT.out h8).mono ?_
  rintro e w2 ⟨rfl, k⟩
  have B2 := Lib.hid k
  clear k
  rcases hc with h1 | ⟨h1, h2⟩
  all_goals
    go_wp2_with fail
    go_ret
    exact ⟨rfl, B2.out⟩

set_option maxRecDepth 100000 in
set_option maxHeartbeats 8000000 in
theorem goesOn_more (s t : Hx.Bytes) (at_ : Int) (w : World) (hg : Glb w) (ht : Tb w) (h8 : 8 ≤ w.heap.size) (hs : s.length ≤ 12000) (htl : t.length ≤ 12000) (ha0 : -9223372036854775808 ≤ at_) (ha1 : at_ ≤ 9223372036854775807) (m2 : Hx.Bytes) (p2 : Hx.Bytes) (bd2 : Hx.Bytes) (c2 : Bool) (n2 : Nat) (e2 : Nat)
    (hr : Hx.read s = (⟨[], [], [], false⟩, 0, 0)) (hr2 : Hx.read (s ++ t) = (⟨m2, p2, bd2, c2⟩, n2, e2))  :
    Calls Tryz.prog 3 #[.string ⟨s.toArray⟩, .string ⟨t.toArray⟩, .int .i64 at_] w (LawPost w) := by
  have hz1 := size_list s; have hz2 := size_list t
  have h1 : ¬ (12000 : Int) < s.length := by omega
  have h2 : ¬ (12000 : Int) < t.length := by omega
  have hcat : ¬ 9223372036854775807 < s.length + t.length := by omega
  have hpart := Hx.read_part s
  rw [hr] at hpart
  have R1 := Lib.hid (fun (S : ByteArray) (wq : World) (hS : S.data.toList = s) (hq : Glb wq) (h8 : 8 ≤ wq.heap.size) => (show Calls Tryz.prog 11 #[.string S] wq fun E w' => E = .returned (.tuple #[.agg #[.string ⟨#[]⟩, .string ⟨#[]⟩, .string ⟨#[]⟩, .bool false], .int .i64 0, .int .i64 0]) ∧ Below wq.heap.size wq w' from readN s S wq hS (by omega) hq h8 [] [] [] false 0 0  hr))
  have R2 := Lib.hid (fun (S : ByteArray) (wq : World) (hS : S.data.toList = (s ++ t)) (hq : Glb wq) (h8 : 8 ≤ wq.heap.size) => (show Calls Tryz.prog 11 #[.string S] wq fun E w' => E = .returned (.tuple #[.agg #[.string ⟨m2.toArray⟩, .string ⟨p2.toArray⟩, .string ⟨bd2.toArray⟩, .bool c2], .int .i64 n2, .int .i64 e2]) ∧ Below wq.heap.size wq w' from readN (s ++ t) S wq hS (by rw [List.length_append]; omega) hq h8 m2 p2 bd2 c2 n2 e2  hr2))
  have HPART := Lib.hid hpart
  have HG := Lib.hid hg; have HT := Lib.hid ht
  clear hg ht hr hr2 hpart
  go_enter Tryz.func3, Tryz.ntmps3
  go_wp2_with fail
  refine (shown_calls _ HG.out HT.out h8).mono ?_
  rintro E w2 ⟨rfl, k⟩
  have B2 := Lib.hid k
  clear k HT
  go_wp2_with fail
  refine (R1.out _ _ rfl (HG.out.below B2.out) (Nat.le_trans h8 B2.out.size)).mono ?_
  rintro E w3 ⟨rfl, k⟩
  obtain ⟨a3, ha3⟩ : ∃ a3, a3 = w3.alloc (.cells #[.string ⟨#[]⟩, .string ⟨#[]⟩, .string ⟨#[]⟩, .bool false] 24) := ⟨_, rfl⟩
  obtain ⟨g3, hg3⟩ : ∃ g, g = (w3 : World).heap.size := ⟨_, rfl⟩
  have B3 : Hid (Below w.heap.size w a3) := Lib.hid (by rw [ha3]; have b := B2.out.trans (k.mono B2.out.size); exact b.alloc b.size _)
  have Q3 : Hid (QAt g3 [] [] [] false a3) := Lib.hid (by rw [ha3, hg3]; exact heap_alloc_new w3 _)
  clear k B2 R1
  go_wp2_with fail
  rw [← hg3, ← ha3]
  clear hg3 ha3
  refine (R2.out _ _ (by simp [ByteArray.data_append]) (HG.out.below B3.out) (Nat.le_trans h8 B3.out.size)).mono ?_
  rintro E w4 ⟨rfl, k⟩
  obtain ⟨a4, ha4⟩ : ∃ a4, a4 = w4.alloc (.cells #[.string ⟨m2.toArray⟩, .string ⟨p2.toArray⟩, .string ⟨bd2.toArray⟩, .bool c2] 24) := ⟨_, rfl⟩
  obtain ⟨g4, hg4⟩ : ∃ g, g = (w4 : World).heap.size := ⟨_, rfl⟩
  have B4 : Hid (Below w.heap.size w a4) := Lib.hid (by rw [ha4]; have b := B3.out.trans (k.mono B3.out.size); exact b.alloc b.size _)
  have Q4 : Hid (QAt g3 [] [] [] false a4) := Lib.hid (by rw [ha4]; exact (Q3.out.below k).below ((Below.refl _ _).alloc (Nat.le_refl _) _))
  have P4 : Hid (QAt g4 m2 p2 bd2 c2 a4) := Lib.hid (by rw [ha4, hg4]; exact heap_alloc_new w4 _)
  clear k B3 Q3 R2
  go_upto_region 6 with fail
  rw [← hg4, ← ha4]
  clear hg4 ha4
  obtain ⟨q0, q1, q2, q3, _⟩ : a4.cell? ⟨g3, 0, none⟩ = some (.string ⟨#[]⟩) ∧ a4.cell? ⟨g3, 1, none⟩ = some (.string ⟨#[]⟩) ∧ a4.cell? ⟨g3, 2, none⟩ = some (.string ⟨#[]⟩) ∧ a4.cell? ⟨g3, 3, none⟩ = some (.bool false) ∧ _ := Q4.out.cells
  obtain ⟨r0, r1, r2, r3, _⟩ : a4.cell? ⟨g4, 0, none⟩ = some (.string ⟨m2.toArray⟩) ∧ a4.cell? ⟨g4, 1, none⟩ = some (.string ⟨p2.toArray⟩) ∧ a4.cell? ⟨g4, 2, none⟩ = some (.string ⟨bd2.toArray⟩) ∧ a4.cell? ⟨g4, 3, none⟩ = some (.bool c2) ∧ _ := P4.out.cells
  have hl1 : ((s.length + 1 : Nat) : Int) = (s.length : Int) + 1 := by omega
  have PK := Lib.hid (fun (wq : World) => pick_calls at_ (s.length + 1) wq ha0 ha1 (by omega) (by omega))
  rw [hl1] at PK
  clear hl1
  go_wp2_with fail
  refine (PK.out _).mono ?_
  rintro E w' ⟨hw', k, hk, rfl⟩
  have hw' := hw'.symm
  subst hw'
  clear q0 q1 q2 q3 r0 r1 r2 r3 PK
  obtain ⟨X, hX⟩ : ∃ X : ByteArray, X = (⟨s.toArray⟩ : ByteArray).extract 0 k := ⟨_, rfl⟩
  have hxl : X.data.toList = s.take k := by rw [hX, extract_list]; simp
  have hp := HPART.out k
  obtain ⟨m3, p3, bd3, c3, n3, e3, hr3⟩ := readN_split (s.take k)
  have hbad := read_bad (s := s.take k)
  rw [hr3] at hp hbad
  simp only at hp hbad
  have hkl : (s.take k).length ≤ 12000 := Nat.le_trans (List.length_take_le _ _) (by omega)
  have hks : k ≤ s.length := by omega
  have R3 := Lib.hid (fun (S : ByteArray) (wq : World) (hS : S.data.toList = s.take k) (hq : Glb wq) (h8 : 8 ≤ wq.heap.size) => readN (s.take k) S wq hS (by omega) hq h8 m3 p3 bd3 c3 n3 e3 hr3)
  have HXL := Lib.hid hxl; have HX := Lib.hid hX; have HP := Lib.hid hp
  clear hr3 hX hxl hp hbad hk hkl HPART
  go_wp2_with fail
  rw [← HX.out]
  refine (R3.out _ _ HXL.out (HG.out.below B4.out) (Nat.le_trans h8 B4.out.size)).mono ?_
  rintro E w5 ⟨rfl, k5⟩
  obtain ⟨a5, ha5⟩ : ∃ a5, a5 = w5.alloc (.cells #[.string ⟨m3.toArray⟩, .string ⟨p3.toArray⟩, .string ⟨bd3.toArray⟩, .bool c3] 24) := ⟨_, rfl⟩
  obtain ⟨g5, hg5⟩ : ∃ g, g = (w5 : World).heap.size := ⟨_, rfl⟩
  have B5 : Hid (Below w.heap.size w a5) := Lib.hid (by rw [ha5]; have b := B4.out.trans (k5.mono B4.out.size); exact b.alloc b.size _)
  have Q5 : Hid (QAt g3 [] [] [] false a5) := Lib.hid (by rw [ha5]; exact (Q4.out.below k5).below ((Below.refl _ _).alloc (Nat.le_refl _) _))
  have P5 : Hid (QAt g5 m3 p3 bd3 c3 a5) := Lib.hid (by rw [ha5, hg5]; exact heap_alloc_new w5 _)
  clear k5 B4 Q4 P4 R3
  go_upto_region 12 with fail
  rw [← hg5, ← ha5]
  clear hg5 ha5 HX HXL
  obtain ⟨q0, q1, q2, q3, _⟩ : a5.cell? ⟨g3, 0, none⟩ = some (.string ⟨#[]⟩) ∧ a5.cell? ⟨g3, 1, none⟩ = some (.string ⟨#[]⟩) ∧ a5.cell? ⟨g3, 2, none⟩ = some (.string ⟨#[]⟩) ∧ a5.cell? ⟨g3, 3, none⟩ = some (.bool false) ∧ _ := Q5.out.cells
  by_cases h0 : e3 = 0
  · subst h0
    go_wp2_with fail
    go_ret
    exact ⟨rfl, B5.out⟩
  · have hp := HP.out h0
    injection hp with hp1 hp2
    injection hp1 with hm hpp hb hc
    injection hp2 with hn hee
    exact absurd hee h0

set_option maxRecDepth 100000 in
set_option maxHeartbeats 8000000 in
theorem goesOn_yes (s t : Hx.Bytes) (at_ : Int) (w : World) (hg : Glb w) (ht : Tb w) (h8 : 8 ≤ w.heap.size) (hs : s.length ≤ 12000) (htl : t.length ≤ 12000) (ha0 : -9223372036854775808 ≤ at_) (ha1 : at_ ≤ 9223372036854775807) (m : Hx.Bytes) (p : Hx.Bytes) (bd : Hx.Bytes) (c : Bool) (n : Nat)
    (hr : Hx.read s = (⟨m, p, bd, c⟩, n, 200)) (hr2 : Hx.read (s ++ t) = (⟨m, p, bd, c⟩, n, 200)) (hn0 : 1 ≤ n) (hn1 : n ≤ s.length) :
    Calls Tryz.prog 3 #[.string ⟨s.toArray⟩, .string ⟨t.toArray⟩, .int .i64 at_] w (LawPost w) := by
  have hz1 := size_list s; have hz2 := size_list t
  have h1 : ¬ (12000 : Int) < s.length := by omega
  have h2 : ¬ (12000 : Int) < t.length := by omega
  have hcat : ¬ 9223372036854775807 < s.length + t.length := by omega
  have f1 : ¬ (n : Int) < 1 := by omega
  have f2 : ¬ (s.length : Int) < (n : Int) := by omega
  have hpart := Hx.read_part s
  rw [hr] at hpart
  have R1 := Lib.hid (fun (S : ByteArray) (wq : World) (hS : S.data.toList = s) (hq : Glb wq) (h8 : 8 ≤ wq.heap.size) => (show Calls Tryz.prog 11 #[.string S] wq fun E w' => E = .returned (.tuple #[.agg #[.string ⟨m.toArray⟩, .string ⟨p.toArray⟩, .string ⟨bd.toArray⟩, .bool c], .int .i64 n, .int .i64 200]) ∧ Below wq.heap.size wq w' from readN s S wq hS (by omega) hq h8 m p bd c n 200  hr))
  have R2 := Lib.hid (fun (S : ByteArray) (wq : World) (hS : S.data.toList = (s ++ t)) (hq : Glb wq) (h8 : 8 ≤ wq.heap.size) => (show Calls Tryz.prog 11 #[.string S] wq fun E w' => E = .returned (.tuple #[.agg #[.string ⟨m.toArray⟩, .string ⟨p.toArray⟩, .string ⟨bd.toArray⟩, .bool c], .int .i64 n, .int .i64 200]) ∧ Below wq.heap.size wq w' from readN (s ++ t) S wq hS (by rw [List.length_append]; omega) hq h8 m p bd c n 200  hr2))
  have HPART := Lib.hid hpart
  have HG := Lib.hid hg; have HT := Lib.hid ht
  clear hg ht hr hr2 hpart
  go_enter Tryz.func3, Tryz.ntmps3
  go_wp2_with fail
  refine (shown_calls _ HG.out HT.out h8).mono ?_
  rintro E w2 ⟨rfl, k⟩
  have B2 := Lib.hid k
  clear k HT
  go_wp2_with fail
  refine (R1.out _ _ rfl (HG.out.below B2.out) (Nat.le_trans h8 B2.out.size)).mono ?_
  rintro E w3 ⟨rfl, k⟩
  obtain ⟨a3, ha3⟩ : ∃ a3, a3 = w3.alloc (.cells #[.string ⟨m.toArray⟩, .string ⟨p.toArray⟩, .string ⟨bd.toArray⟩, .bool c] 24) := ⟨_, rfl⟩
  obtain ⟨g3, hg3⟩ : ∃ g, g = (w3 : World).heap.size := ⟨_, rfl⟩
  have B3 : Hid (Below w.heap.size w a3) := Lib.hid (by rw [ha3]; have b := B2.out.trans (k.mono B2.out.size); exact b.alloc b.size _)
  have Q3 : Hid (QAt g3 m p bd c a3) := Lib.hid (by rw [ha3, hg3]; exact heap_alloc_new w3 _)
  clear k B2 R1
  go_wp2_with fail
  rw [← hg3, ← ha3]
  clear hg3 ha3
  refine (R2.out _ _ (by simp [ByteArray.data_append]) (HG.out.below B3.out) (Nat.le_trans h8 B3.out.size)).mono ?_
  rintro E w4 ⟨rfl, k⟩
  obtain ⟨a4, ha4⟩ : ∃ a4, a4 = w4.alloc (.cells #[.string ⟨m.toArray⟩, .string ⟨p.toArray⟩, .string ⟨bd.toArray⟩, .bool c] 24) := ⟨_, rfl⟩
  obtain ⟨g4, hg4⟩ : ∃ g, g = (w4 : World).heap.size := ⟨_, rfl⟩
  have B4 : Hid (Below w.heap.size w a4) := Lib.hid (by rw [ha4]; have b := B3.out.trans (k.mono B3.out.size); exact b.alloc b.size _)
  have Q4 : Hid (QAt g3 m p bd c a4) := Lib.hid (by rw [ha4]; exact (Q3.out.below k).below ((Below.refl _ _).alloc (Nat.le_refl _) _))
  have P4 : Hid (QAt g4 m p bd c a4) := Lib.hid (by rw [ha4, hg4]; exact heap_alloc_new w4 _)
  clear k B3 Q3 R2
  go_upto_region 6 with fail
  rw [← hg4, ← ha4]
  clear hg4 ha4
  obtain ⟨q0, q1, q2, q3, _⟩ : a4.cell? ⟨g3, 0, none⟩ = some (.string ⟨m.toArray⟩) ∧ a4.cell? ⟨g3, 1, none⟩ = some (.string ⟨p.toArray⟩) ∧ a4.cell? ⟨g3, 2, none⟩ = some (.string ⟨bd.toArray⟩) ∧ a4.cell? ⟨g3, 3, none⟩ = some (.bool c) ∧ _ := Q4.out.cells
  obtain ⟨r0, r1, r2, r3, _⟩ : a4.cell? ⟨g4, 0, none⟩ = some (.string ⟨m.toArray⟩) ∧ a4.cell? ⟨g4, 1, none⟩ = some (.string ⟨p.toArray⟩) ∧ a4.cell? ⟨g4, 2, none⟩ = some (.string ⟨bd.toArray⟩) ∧ a4.cell? ⟨g4, 3, none⟩ = some (.bool c) ∧ _ := P4.out.cells
  have hl1 : ((s.length + 1 : Nat) : Int) = (s.length : Int) + 1 := by omega
  have PK := Lib.hid (fun (wq : World) => pick_calls at_ (s.length + 1) wq ha0 ha1 (by omega) (by omega))
  rw [hl1] at PK
  clear hl1
  go_wp2_with fail
  refine (PK.out _).mono ?_
  rintro E w' ⟨hw', k, hk, rfl⟩
  have hw' := hw'.symm
  subst hw'
  clear q0 q1 q2 q3 r0 r1 r2 r3 PK
  obtain ⟨X, hX⟩ : ∃ X : ByteArray, X = (⟨s.toArray⟩ : ByteArray).extract 0 k := ⟨_, rfl⟩
  have hxl : X.data.toList = s.take k := by rw [hX, extract_list]; simp
  have hp := HPART.out k
  obtain ⟨m3, p3, bd3, c3, n3, e3, hr3⟩ := readN_split (s.take k)
  have hbad := read_bad (s := s.take k)
  rw [hr3] at hp hbad
  simp only at hp hbad
  have hkl : (s.take k).length ≤ 12000 := Nat.le_trans (List.length_take_le _ _) (by omega)
  have hks : k ≤ s.length := by omega
  have R3 := Lib.hid (fun (S : ByteArray) (wq : World) (hS : S.data.toList = s.take k) (hq : Glb wq) (h8 : 8 ≤ wq.heap.size) => readN (s.take k) S wq hS (by omega) hq h8 m3 p3 bd3 c3 n3 e3 hr3)
  have HXL := Lib.hid hxl; have HX := Lib.hid hX; have HP := Lib.hid hp
  clear hr3 hX hxl hp hbad hk hkl HPART
  go_wp2_with fail
  rw [← HX.out]
  refine (R3.out _ _ HXL.out (HG.out.below B4.out) (Nat.le_trans h8 B4.out.size)).mono ?_
  rintro E w5 ⟨rfl, k5⟩
  obtain ⟨a5, ha5⟩ : ∃ a5, a5 = w5.alloc (.cells #[.string ⟨m3.toArray⟩, .string ⟨p3.toArray⟩, .string ⟨bd3.toArray⟩, .bool c3] 24) := ⟨_, rfl⟩
  obtain ⟨g5, hg5⟩ : ∃ g, g = (w5 : World).heap.size := ⟨_, rfl⟩
  have B5 : Hid (Below w.heap.size w a5) := Lib.hid (by rw [ha5]; have b := B4.out.trans (k5.mono B4.out.size); exact b.alloc b.size _)
  have Q5 : Hid (QAt g3 m p bd c a5) := Lib.hid (by rw [ha5]; exact (Q4.out.below k5).below ((Below.refl _ _).alloc (Nat.le_refl _) _))
  have P5 : Hid (QAt g5 m3 p3 bd3 c3 a5) := Lib.hid (by rw [ha5, hg5]; exact heap_alloc_new w5 _)
  clear k5 B4 Q4 P4 R3
  go_upto_region 12 with fail
  rw [← hg5, ← ha5]
  clear hg5 ha5 HX HXL
  obtain ⟨q0, q1, q2, q3, _⟩ : a5.cell? ⟨g3, 0, none⟩ = some (.string ⟨m.toArray⟩) ∧ a5.cell? ⟨g3, 1, none⟩ = some (.string ⟨p.toArray⟩) ∧ a5.cell? ⟨g3, 2, none⟩ = some (.string ⟨bd.toArray⟩) ∧ a5.cell? ⟨g3, 3, none⟩ = some (.bool c) ∧ _ := Q5.out.cells
  by_cases h0 : e3 = 0
  · subst h0
    go_wp2_with fail
    go_ret
    exact ⟨rfl, B5.out⟩
  · have hp := HP.out h0
    injection hp with hp1 hp2
    injection hp1 with hm hpp hb hc
    injection hp2 with hn hee
    subst hm hpp hb hc hn hee
    have e3n : ((200 : Int) == 0) = false := by first | decide | (rw [beq_eq_false_iff_ne]; omega)
    obtain ⟨r0, r1, r2, r3, _⟩ := P5.out.cells
    clear HP h0
    go_wp2_with fail
    go_ret
    exact ⟨rfl, B5.out⟩

set_option maxRecDepth 100000 in
set_option maxHeartbeats 8000000 in
theorem goesOn_bad (s t : Hx.Bytes) (at_ : Int) (w : World) (hg : Glb w) (ht : Tb w) (h8 : 8 ≤ w.heap.size) (hs : s.length ≤ 12000) (htl : t.length ≤ 12000) (ha0 : -9223372036854775808 ≤ at_) (ha1 : at_ ≤ 9223372036854775807) (e : Nat)
    (hr : Hx.read s = (⟨[], [], [], false⟩, 0, e)) (hr2 : Hx.read (s ++ t) = (⟨[], [], [], false⟩, 0, e)) (he0 : e ≠ 0) (he1 : e ≠ 200) :
    Calls Tryz.prog 3 #[.string ⟨s.toArray⟩, .string ⟨t.toArray⟩, .int .i64 at_] w (LawPost w) := by
  have hz1 := size_list s; have hz2 := size_list t
  have h1 : ¬ (12000 : Int) < s.length := by omega
  have h2 : ¬ (12000 : Int) < t.length := by omega
  have hcat : ¬ 9223372036854775807 < s.length + t.length := by omega
  have f1 : ((e : Int) != 0) = true := by rw [bne_iff_ne]; omega
  have f2 : ((e : Int) == 200) = false := by rw [beq_eq_false_iff_ne]; omega
  have f3 : ((e : Int) != 200) = true := by rw [bne_iff_ne]; omega
  have hpart := Hx.read_part s
  rw [hr] at hpart
  have R1 := Lib.hid (fun (S : ByteArray) (wq : World) (hS : S.data.toList = s) (hq : Glb wq) (h8 : 8 ≤ wq.heap.size) => (show Calls Tryz.prog 11 #[.string S] wq fun E w' => E = .returned (.tuple #[.agg #[.string ⟨#[]⟩, .string ⟨#[]⟩, .string ⟨#[]⟩, .bool false], .int .i64 0, .int .i64 e]) ∧ Below wq.heap.size wq w' from readN s S wq hS (by omega) hq h8 [] [] [] false 0 e  hr))
  have R2 := Lib.hid (fun (S : ByteArray) (wq : World) (hS : S.data.toList = (s ++ t)) (hq : Glb wq) (h8 : 8 ≤ wq.heap.size) => (show Calls Tryz.prog 11 #[.string S] wq fun E w' => E = .returned (.tuple #[.agg #[.string ⟨#[]⟩, .string ⟨#[]⟩, .string ⟨#[]⟩, .bool false], .int .i64 0, .int .i64 e]) ∧ Below wq.heap.size wq w' from readN (s ++ t) S wq hS (by rw [List.length_append]; omega) hq h8 [] [] [] false 0 e  hr2))
  have HPART := Lib.hid hpart
  have HG := Lib.hid hg; have HT := Lib.hid ht
  clear hg ht hr hr2 hpart
  go_enter Tryz.func3, Tryz.ntmps3
  go_wp2_with fail
  refine (shown_calls _ HG.out HT.out h8).mono ?_
  rintro E w2 ⟨rfl, k⟩
  have B2 := Lib.hid k
  clear k HT
  go_wp2_with fail
  refine (R1.out _ _ rfl (HG.out.below B2.out) (Nat.le_trans h8 B2.out.size)).mono ?_
  rintro E w3 ⟨rfl, k⟩
  obtain ⟨a3, ha3⟩ : ∃ a3, a3 = w3.alloc (.cells #[.string ⟨#[]⟩, .string ⟨#[]⟩, .string ⟨#[]⟩, .bool false] 24) := ⟨_, rfl⟩
  obtain ⟨g3, hg3⟩ : ∃ g, g = (w3 : World).heap.size := ⟨_, rfl⟩
  have B3 : Hid (Below w.heap.size w a3) := Lib.hid (by rw [ha3]; have b := B2.out.trans (k.mono B2.out.size); exact b.alloc b.size _)
  have Q3 : Hid (QAt g3 [] [] [] false a3) := Lib.hid (by rw [ha3, hg3]; exact heap_alloc_new w3 _)
  clear k B2 R1
  go_wp2_with fail
  rw [← hg3, ← ha3]
  clear hg3 ha3
  refine (R2.out _ _ (by simp [ByteArray.data_append]) (HG.out.below B3.out) (Nat.le_trans h8 B3.out.size)).mono ?_
  rintro E w4 ⟨rfl, k⟩
  obtain ⟨a4, ha4⟩ : ∃ a4, a4 = w4.alloc (.cells #[.string ⟨#[]⟩, .string ⟨#[]⟩, .string ⟨#[]⟩, .bool false] 24) := ⟨_, rfl⟩
  obtain ⟨g4, hg4⟩ : ∃ g, g = (w4 : World).heap.size := ⟨_, rfl⟩
  have B4 : Hid (Below w.heap.size w a4) := Lib.hid (by rw [ha4]; have b := B3.out.trans (k.mono B3.out.size); exact b.alloc b.size _)
  have Q4 : Hid (QAt g3 [] [] [] false a4) := Lib.hid (by rw [ha4]; exact (Q3.out.below k).below ((Below.refl _ _).alloc (Nat.le_refl _) _))
  have P4 : Hid (QAt g4 [] [] [] false a4) := Lib.hid (by rw [ha4, hg4]; exact heap_alloc_new w4 _)
  clear k B3 Q3 R2
  go_upto_region 6 with fail
  rw [← hg4, ← ha4]
  clear hg4 ha4
  obtain ⟨q0, q1, q2, q3, _⟩ : a4.cell? ⟨g3, 0, none⟩ = some (.string ⟨#[]⟩) ∧ a4.cell? ⟨g3, 1, none⟩ = some (.string ⟨#[]⟩) ∧ a4.cell? ⟨g3, 2, none⟩ = some (.string ⟨#[]⟩) ∧ a4.cell? ⟨g3, 3, none⟩ = some (.bool false) ∧ _ := Q4.out.cells
  obtain ⟨r0, r1, r2, r3, _⟩ : a4.cell? ⟨g4, 0, none⟩ = some (.string ⟨#[]⟩) ∧ a4.cell? ⟨g4, 1, none⟩ = some (.string ⟨#[]⟩) ∧ a4.cell? ⟨g4, 2, none⟩ = some (.string ⟨#[]⟩) ∧ a4.cell? ⟨g4, 3, none⟩ = some (.bool false) ∧ _ := P4.out.cells
  have hl1 : ((s.length + 1 : Nat) : Int) = (s.length : Int) + 1 := by omega
  have PK := Lib.hid (fun (wq : World) => pick_calls at_ (s.length + 1) wq ha0 ha1 (by omega) (by omega))
  rw [hl1] at PK
  clear hl1
  go_wp2_with fail
  refine (PK.out _).mono ?_
  rintro E w' ⟨hw', k, hk, rfl⟩
  have hw' := hw'.symm
  subst hw'
  clear q0 q1 q2 q3 r0 r1 r2 r3 PK
  obtain ⟨X, hX⟩ : ∃ X : ByteArray, X = (⟨s.toArray⟩ : ByteArray).extract 0 k := ⟨_, rfl⟩
  have hxl : X.data.toList = s.take k := by rw [hX, extract_list]; simp
  have hp := HPART.out k
  obtain ⟨m3, p3, bd3, c3, n3, e3, hr3⟩ := readN_split (s.take k)
  have hbad := read_bad (s := s.take k)
  rw [hr3] at hp hbad
  simp only at hp hbad
  have hkl : (s.take k).length ≤ 12000 := Nat.le_trans (List.length_take_le _ _) (by omega)
  have hks : k ≤ s.length := by omega
  have R3 := Lib.hid (fun (S : ByteArray) (wq : World) (hS : S.data.toList = s.take k) (hq : Glb wq) (h8 : 8 ≤ wq.heap.size) => readN (s.take k) S wq hS (by omega) hq h8 m3 p3 bd3 c3 n3 e3 hr3)
  have HXL := Lib.hid hxl; have HX := Lib.hid hX; have HP := Lib.hid hp
  clear hr3 hX hxl hp hbad hk hkl HPART
  go_wp2_with fail
  rw [← HX.out]
  refine (R3.out _ _ HXL.out (HG.out.below B4.out) (Nat.le_trans h8 B4.out.size)).mono ?_
  rintro E w5 ⟨rfl, k5⟩
  obtain ⟨a5, ha5⟩ : ∃ a5, a5 = w5.alloc (.cells #[.string ⟨m3.toArray⟩, .string ⟨p3.toArray⟩, .string ⟨bd3.toArray⟩, .bool c3] 24) := ⟨_, rfl⟩
  obtain ⟨g5, hg5⟩ : ∃ g, g = (w5 : World).heap.size := ⟨_, rfl⟩
  have B5 : Hid (Below w.heap.size w a5) := Lib.hid (by rw [ha5]; have b := B4.out.trans (k5.mono B4.out.size); exact b.alloc b.size _)
  have Q5 : Hid (QAt g3 [] [] [] false a5) := Lib.hid (by rw [ha5]; exact (Q4.out.below k5).below ((Below.refl _ _).alloc (Nat.le_refl _) _))
  have P5 : Hid (QAt g5 m3 p3 bd3 c3 a5) := Lib.hid (by rw [ha5, hg5]; exact heap_alloc_new w5 _)
  clear k5 B4 Q4 P4 R3
  go_upto_region 12 with fail
  rw [← hg5, ← ha5]
  clear hg5 ha5 HX HXL
  obtain ⟨q0, q1, q2, q3, _⟩ : a5.cell? ⟨g3, 0, none⟩ = some (.string ⟨#[]⟩) ∧ a5.cell? ⟨g3, 1, none⟩ = some (.string ⟨#[]⟩) ∧ a5.cell? ⟨g3, 2, none⟩ = some (.string ⟨#[]⟩) ∧ a5.cell? ⟨g3, 3, none⟩ = some (.bool false) ∧ _ := Q5.out.cells
  by_cases h0 : e3 = 0
  · subst h0
    go_wp2_with fail
    go_ret
    exact ⟨rfl, B5.out⟩
  · have hp := HP.out h0
    injection hp with hp1 hp2
    injection hp1 with hm hpp hb hc
    injection hp2 with hn hee
    subst hm hpp hb hc hn hee
    have e3n : ((e3 : Int) == 0) = false := by first | decide | (rw [beq_eq_false_iff_ne]; omega)
    obtain ⟨r0, r1, r2, r3, _⟩ := P5.out.cells
    clear HP h0
    go_wp2_with fail
    go_ret
    exact ⟨rfl, B5.out⟩

theorem goesOn_calls (s t : Hx.Bytes) (at_ : Int) (w : World) (hg : Glb w) (ht : Tb w) (h8 : 8 ≤ w.heap.size) (ha0 : -9223372036854775808 ≤ at_) (ha1 : at_ ≤ 9223372036854775807) :
    Calls Tryz.prog 3 #[.string ⟨s.toArray⟩, .string ⟨t.toArray⟩, .int .i64 at_] w (LawPost w) := by
  by_cases ho : 12000 < s.length ∨ 12000 < t.length
  · exact goesOn_out s t at_ w hg ht h8 ho
  obtain ⟨m, p, bd, c, n, e, hr⟩ := readN_split s
  obtain ⟨m2, p2, bd2, c2, n2, e2, hr2⟩ := readN_split (s ++ t)
  have happ := Hx.read_app (s := s) t
  have hle := Hx.read_le (s := s)
  have hbad := read_bad (s := s)
  rw [hr] at happ hle hbad
  simp only at happ hle hbad
  by_cases h0 : e = 0
  · subst h0
    rw [hbad (by decide)] at hr
    exact goesOn_more s t at_ w hg ht h8 (by omega) (by omega) ha0 ha1 m2 p2 bd2 c2 n2 e2 hr.symm.symm hr2
  · have hr3 := happ h0
    by_cases h1 : e = 200
    · subst h1
      exact goesOn_yes s t at_ w hg ht h8 (by omega) (by omega) ha0 ha1 m p bd c n hr hr3 (hle rfl).1 (hle rfl).2
    · have h2 := hbad h1
      injection h2 with h3 h4
      injection h3 with h5 h6 h7 h8
      injection h4 with h9 _
      subst h5 h6 h7 h8 h9
      exact goesOn_bad s t at_ w hg ht (by assumption) (by omega) (by omega) ha0 ha1 e hr hr3 h0 h1
end Go.Proofs.YthdmdafhldicmaaGreatDoor
