/- WALKS: the law HttpNames. -/
import Derived.Test.YthdmdafhldicmaaGreatDoorHsh
import Derived.Test.YthdmdafhldicmaaGreatDoorHmp
import Derived.Test.YthdmdafhldicmaaGreatDoorHlt
namespace Go.Proofs.YthdmdafhldicmaaGreatDoor
open Go.RowKit Go.Maps Go.WideMaps

set_option maxRecDepth 100000 in
set_option maxHeartbeats 4000000 in
theorem names_out (bits order : Int) (nm vl : Hx.Bytes) (w : World) (hg : Glb w) (ht : Tb w) (h8 : 8 ≤ w.heap.size) (ho : 60 < nm.length ∨ 200 < vl.length) :
    Calls Tryz.prog 6 #[.int .i64 bits, .int .i64 order, .string ⟨nm.toArray⟩, .string ⟨vl.toArray⟩] w (LawPost w) := by
  have hz1 := size_list nm; have hz2 := size_list vl
  have hc : (60 : Int) < nm.length ∨ (¬ (60 : Int) < nm.length ∧ (200 : Int) < vl.length) := by omega
  clear ho
  have HG := Lib.hid hg; have HT := Lib.hid ht
  clear hg ht
  go_enter Tryz.func6, Tryz.ntmps6
  go_wp2_with fail
  refine (shown_calls _ HG.out HT.out h8).mono ?_
  rintro E w2 ⟨rfl, k⟩
  have B2 := Lib.hid k
  clear k HT
  rcases hc with h1 | ⟨h1, h2⟩
  all_goals
    go_wp2_with fail
    go_ret
    exact ⟨rfl, B2.out⟩

theorem wrap3 (k : Nat) (h : k < 3) : (((k : Int) + 1) % 3 = ((k + 1) % 3 : Nat)) ∧ (((k : Int) + 2) % 3 = ((k + 2) % 3 : Nat)) := by omega
/-- The three lines, and their order. -/
def ln3 (a b c : Hx.Bytes) : Nat → Hx.Bytes
  | 0 => a ++ [58, 32, 104, 13, 10]
  | 1 => b ++ [58, 51, 32, 13, 10]
  | _ => c ++ [58, 9, 99, 108, 111, 115, 101, 13, 10]
theorem head3 (a b c : Hx.Bytes) (k : Nat) (h : k < 3) : [80, 85, 84, 32, 47, 120, 32, 72, 84, 84, 80, 47, 49, 46, 49, 13, 10] ++ ln3 a b c k ++ ln3 a b c ((k + 1) % 3) ++ ln3 a b c ((k + 2) % 3) ++ [13, 10] = Hx.nmHead (Hx.nmF a b c k ++ []) := by
  match k, h with
  | 0, _ => simp [ln3, Hx.nmHead, Hx.nmF, Hx.rows, Hx.fl, Hx.lf, Hx.tPut, Hx.tVersion]
  | 1, _ => simp [ln3, Hx.nmHead, Hx.nmF, Hx.rows, Hx.fl, Hx.lf, Hx.tPut, Hx.tVersion]
  | 2, _ => simp [ln3, Hx.nmHead, Hx.nmF, Hx.rows, Hx.fl, Hx.lf, Hx.tPut, Hx.tVersion]
theorem head4 (a b c m p : Hx.Bytes) (k : Nat) (h : k < 3) : [80, 85, 84, 32, 47, 120, 32, 72, 84, 84, 80, 47, 49, 46, 49, 13, 10] ++ ln3 a b c k ++ ln3 a b c ((k + 1) % 3) ++ ln3 a b c ((k + 2) % 3) ++ [88, 45] ++ m ++ [58, 32] ++ p ++ [13, 10, 13, 10] = Hx.nmHead (Hx.nmF a b c k ++ [([88, 45] ++ m, 32 :: p)]) := by
  match k, h with
  | 0, _ => simp [ln3, Hx.nmHead, Hx.nmF, Hx.rows, Hx.fl, Hx.lf, Hx.tPut, Hx.tVersion]
  | 1, _ => simp [ln3, Hx.nmHead, Hx.nmF, Hx.rows, Hx.fl, Hx.lf, Hx.tPut, Hx.tVersion]
  | 2, _ => simp [ln3, Hx.nmHead, Hx.nmF, Hx.rows, Hx.fl, Hx.lf, Hx.tPut, Hx.tVersion]

set_option maxRecDepth 100000 in
set_option maxHeartbeats 8000000 in
theorem names_main (bits order : Int) (nm vl : Hx.Bytes) (w : World) (hg : Glb w) (ht : Tb w) (h8 : 8 ≤ w.heap.size) (hn : nm.length ≤ 60) (hv : vl.length ≤ 200) (ha0 : -9223372036854775808 ≤ order) (ha1 : order ≤ 9223372036854775807) :
    Calls Tryz.prog 6 #[.int .i64 bits, .int .i64 order, .string ⟨nm.toArray⟩, .string ⟨vl.toArray⟩] w (LawPost w) := by
  have hz1 := size_list nm; have hz2 := size_list vl
  have h1 : ¬ (60 : Int) < nm.length := by omega
  have h2 : ¬ (200 : Int) < vl.length := by omega
  have HG := Lib.hid hg; have HT := Lib.hid ht
  clear hg ht
  go_enter Tryz.func6, Tryz.ntmps6
  go_wp2_with fail
  refine (shown_calls _ HG.out HT.out h8).mono ?_
  rintro E w2 ⟨rfl, k⟩
  have B2 := Lib.hid k
  clear k HT
  go_wp2_with fail
  refine (letters_calls Hx.tHost bits _ Hx.plainHost (by decide) (by decide)).mono ?_
  rintro E w3 ⟨a, rfl, hna, k⟩
  have B3 := Lib.hid (B2.out.trans (k.mono B2.out.size))
  have la : a.length = 4 := hna.2.2.1
  have m1 : ¬ 9223372036854775807 < a.length + 5 := by omega
  have HA := Lib.hid hna
  have z1 := size_list a
  clear k B2 hna
  go_wp2_with fail
  refine (letters_calls Hx.tLength bits _ Hx.plainLength (by decide) (by decide)).mono ?_
  rintro E w4 ⟨b, rfl, hnb, k⟩
  have B4 := Lib.hid (B3.out.trans (k.mono B3.out.size))
  have lb : b.length = 14 := hnb.2.2.1
  have m2 : ¬ 9223372036854775807 < b.length + 5 := by omega
  have HB := Lib.hid hnb
  have z2 := size_list b
  clear k B3 hnb
  go_wp2_with fail
  refine (letters_calls Hx.tConnection bits _ Hx.plainConnection (by decide) (by decide)).mono ?_
  rintro E w5 ⟨c, rfl, hnc, k⟩
  have B5 := Lib.hid (B4.out.trans (k.mono B4.out.size))
  have lc : c.length = 10 := hnc.2.2.1
  have m3 : ¬ 9223372036854775807 < c.length + 9 := by omega
  have HC := Lib.hid hnc
  have z3 := size_list c
  clear k B4 hnc
  obtain ⟨a5, ha5⟩ : ∃ a5, a5 = w5.alloc (.cells #[.string (⟨a.toArray⟩ ++ ⟨#[58, 32, 104, 13, 10]⟩), .string (⟨b.toArray⟩ ++ ⟨#[58, 51, 32, 13, 10]⟩), .string (⟨c.toArray⟩ ++ ⟨#[58, 9, 99, 108, 111, 115, 101, 13, 10]⟩)] 9) := ⟨_, rfl⟩
  obtain ⟨g, hg⟩ : ∃ g, g = (w5 : World).heap.size := ⟨_, rfl⟩
  have hcell : a5.heap[g]? = some (.cells #[.string (⟨a.toArray⟩ ++ ⟨#[58, 32, 104, 13, 10]⟩), .string (⟨b.toArray⟩ ++ ⟨#[58, 51, 32, 13, 10]⟩), .string (⟨c.toArray⟩ ++ ⟨#[58, 9, 99, 108, 111, 115, 101, 13, 10]⟩)] 9 (0, 0)) := by rw [ha5, hg]; exact heap_alloc_new w5 _
  have hcc : ∀ j, j < 3 → a5.cell? ⟨g, j, none⟩ = some (.string ⟨(ln3 a b c j).toArray⟩) := by
    intro j hj
    match j, hj with
    | 0, _ => simp [World.cell?, hcell, ln3, ByteArray.ext_iff, ByteArray.data_append]
    | 1, _ => simp [World.cell?, hcell, ln3, ByteArray.ext_iff, ByteArray.data_append]
    | 2, _ => simp [World.cell?, hcell, ln3, ByteArray.ext_iff, ByteArray.data_append]
  have B6 : Hid (Below w.heap.size w a5) := Lib.hid (by rw [ha5]; exact B5.out.alloc B5.out.size _)
  have HCC := Lib.hid hcc
  clear hcell hcc B5
  go_wp2_with fail
  rw [← hg, ← ha5]
  clear hg ha5 m1 m2 m3
  refine (pick_calls order 3 _ ha0 ha1 (by decide) (by decide)).mono ?_
  rintro E w' ⟨hw', k, hk, rfl⟩
  have hw' := hw'.symm
  subst hw'
  obtain ⟨K1, hK1⟩ : ∃ K, K = (k + 1) % 3 := ⟨_, rfl⟩
  obtain ⟨K2, hK2⟩ : ∃ K, K = (k + 2) % 3 := ⟨_, rfl⟩
  obtain ⟨e1, e2⟩ := wrap3 k hk
  rw [← hK1] at e1; rw [← hK2] at e2
  have k1 : K1 < 3 := by omega
  have k2 : K2 < 3 := by omega
  obtain ⟨L0, hL0⟩ : ∃ L : ByteArray, L = ⟨(ln3 a b c k).toArray⟩ := ⟨_, rfl⟩
  obtain ⟨L1, hL1⟩ : ∃ L : ByteArray, L = ⟨(ln3 a b c K1).toArray⟩ := ⟨_, rfl⟩
  obtain ⟨L2, hL2⟩ : ∃ L : ByteArray, L = ⟨(ln3 a b c K2).toArray⟩ := ⟨_, rfl⟩
  have hsz : ∀ j, (ln3 a b c j).length ≤ 30 := by
    intro j
    match j with
    | 0 => simp [ln3]; omega
    | 1 => simp [ln3]; omega
    | _ + 2 => simp [ln3]; omega
  have s0 : L0.size ≤ 30 := by rw [hL0, size_list]; exact hsz k
  have s1 : L1.size ≤ 30 := by rw [hL1, size_list]; exact hsz K1
  have s2 : L2.size ≤ 30 := by rw [hL2, size_list]; exact hsz K2
  have c0 := HCC.out k hk; have c1 := HCC.out K1 k1; have c2 := HCC.out K2 k2
  rw [← hL0] at c0; rw [← hL1] at c1; rw [← hL2] at c2
  have n1 : ¬ 9223372036854775807 < 17 + L0.size := by omega
  have n2 : ¬ 9223372036854775807 < 17 + L0.size + L1.size := by omega
  have n3 : ¬ 9223372036854775807 < 17 + L0.size + L1.size + L2.size := by omega
  obtain ⟨S, hS⟩ : ∃ S : ByteArray, S = ⟨#[80, 85, 84, 32, 47, 120, 32, 72, 84, 84, 80, 47, 49, 46, 49, 13, 10]⟩ ++ L0 ++ L1 ++ L2 := ⟨_, rfl⟩
  obtain ⟨M, hM⟩ : ∃ M : ByteArray, M = ⟨(Hx.methodOf nm).toArray⟩ := ⟨_, rfl⟩
  obtain ⟨P, hP⟩ : ∃ P : ByteArray, P = ⟨(Hx.pathOf vl).toArray⟩ := ⟨_, rfl⟩
  have sM : M.size ≤ 10 := by rw [hM, size_list]; exact (Hx.methodOf_ok nm).2.1
  have sP : P.size ≤ 301 := by rw [hP, size_list]; exact (Hx.pathOf_ok vl).2.1
  have sS : S.size ≤ 200 := by rw [hS]; simp only [ByteArray.size_append]; show 17 + L0.size + L1.size + L2.size ≤ 200; omega
  have t1 : (S ++ ⟨#[13, 10, 97, 98, 99]⟩ : ByteArray).data.toList = Hx.nmHead (Hx.nmF a b c k ++ []) ++ Hx.tAbc := by
    rw [← head3 a b c k hk, hS, hL0, hL1, hL2, ← hK1, ← hK2]
    simp [ByteArray.data_append, Hx.tAbc]
  have t2 : (S ++ ⟨#[88, 45]⟩ ++ M ++ ⟨#[58, 32]⟩ ++ P ++ ⟨#[13, 10, 13, 10, 97, 98, 99]⟩ : ByteArray).data.toList = Hx.nmHead (Hx.nmF a b c k ++ [([88, 45] ++ Hx.methodOf nm, 32 :: Hx.pathOf vl)]) ++ Hx.tAbc := by
    rw [← head4 a b c (Hx.methodOf nm) (Hx.pathOf vl) k hk, hS, hL0, hL1, hL2, hM, hP, ← hK1, ← hK2]
    simp [ByteArray.data_append, Hx.tAbc]
  obtain ⟨X2, hX2⟩ : ∃ X : ByteArray, X = S ++ ⟨#[88, 45]⟩ ++ M ++ ⟨#[58, 32]⟩ ++ P ++ ⟨#[13, 10, 13, 10, 97, 98, 99]⟩ := ⟨_, rfl⟩
  rw [← hX2] at t2
  have sX : X2.size ≤ 600 := by
    rw [hX2]; simp only [ByteArray.size_append]
    show S.size + 2 + M.size + 2 + P.size + 7 ≤ 600; omega
  have r1 := Hx.read_nm HA.out HB.out HC.out k [] (fun x hx => by cases hx) (fun x hx => by cases hx) (by simp)
  obtain ⟨o1, o2, o3, o4⟩ := Hx.other_ok nm vl
  have r2 := Hx.read_nm HA.out HB.out HC.out k [([88, 45] ++ Hx.methodOf nm, 32 :: Hx.pathOf vl)] (fun x hx => by obtain rfl := List.mem_singleton.1 hx; exact o1) (fun x hx => by obtain rfl := List.mem_singleton.1 hx; exact ⟨o2, o3, o4⟩) (by
    have q1 := (Hx.methodOf_ok nm).2.1; have q2 := (Hx.pathOf_ok vl).2.1
    simp only [List.map_cons, List.map_nil, List.sum_cons, List.sum_nil, Hx.fl, List.length_append, List.length_cons, List.length_nil]; omega)
  have q1 : (Hx.nmHead (Hx.nmF a b c k ++ []) ++ Hx.tAbc).length = S.size + 5 := by rw [← t1]; show (S ++ _ : ByteArray).size = _; rw [ByteArray.size_append]; rfl
  have q2 : (Hx.nmHead (Hx.nmF a b c k ++ [([88, 45] ++ Hx.methodOf nm, 32 :: Hx.pathOf vl)]) ++ Hx.tAbc).length = X2.size := by rw [← t2]; rfl
  rw [q1] at r1; rw [q2] at r2
  have R1 : Hid (∀ wq, Glb wq → 8 ≤ wq.heap.size → Calls Tryz.prog 11 #[.string (S ++ ⟨#[13, 10, 97, 98, 99]⟩)] wq fun E w' => E = .returned (.tuple #[.agg #[.string ⟨#[80, 85, 84]⟩, .string ⟨#[47, 120]⟩, .string ⟨#[97, 98, 99]⟩, .bool true], .int .i64 ((S.size : Int) + 5), .int .i64 200]) ∧ Below wq.heap.size wq w') := Lib.hid fun wq hq h8 => by
    have h := readN _ (S ++ ⟨#[13, 10, 97, 98, 99]⟩) wq t1 (by rw [q1]; omega) hq h8 Hx.tPut [47, 120] Hx.tAbc true (S.size + 5) 200 r1
    rw [show ((S.size + 5 : Nat) : Int) = (S.size : Int) + 5 by omega] at h
    exact h
  have R2 : Hid (∀ wq, Glb wq → 8 ≤ wq.heap.size → Calls Tryz.prog 11 #[.string X2] wq fun E w' => E = .returned (.tuple #[.agg #[.string ⟨#[80, 85, 84]⟩, .string ⟨#[47, 120]⟩, .string ⟨#[97, 98, 99]⟩, .bool true], .int .i64 X2.size, .int .i64 200]) ∧ Below wq.heap.size wq w') := Lib.hid fun wq hq h8 =>
    readN _ X2 wq t2 (by rw [q2]; omega) hq h8 Hx.tPut [47, 120] Hx.tAbc true X2.size 200 r2
  have CM : Hid (∀ wq, Calls Tryz.prog 13 #[.string ⟨nm.toArray⟩] wq fun e w' => e = .returned (.string M) ∧ Below wq.heap.size wq w') := Lib.hid fun wq => by rw [hM]; exact method_calls nm wq
  have CP : Hid (∀ wq, Calls Tryz.prog 14 #[.string ⟨vl.toArray⟩] wq fun e w' => e = .returned (.string P) ∧ Below wq.heap.size wq w') := Lib.hid fun wq => by rw [hP]; exact path_calls vl wq
  have HS := Lib.hid hS; have HX2 := Lib.hid hX2
  clear hsz hL0 hL1 hL2 hM hP t1 t2 r1 r2 q1 q2 o1 o2 o3 o4 hS hX2 HA HB HC HCC hK1 hK2 la lb lc z1 z2 z3
  go_wp2_with fail
  go_quiet (fail)
  rw [← HS.out]
  clear e1 e2 k1 k2 c0 c1 c2 n1 n2 n3 s0 s1 s2 hk
  have B7 := Lib.hid (below_dN B6.out nq)
  obtain ⟨w7, hw7⟩ : ∃ w7, w7 = a5.drewN nq := ⟨_, rfl⟩
  rw [← hw7] at B7 ⊢
  clear hw7 B6
  have p1 : ¬ 9223372036854775807 < S.size + 5 := by omega
  have p2 : ¬ 9223372036854775807 < S.size + 2 := by omega
  have p3 : ¬ 9223372036854775807 < S.size + 2 + M.size := by omega
  have p4 : ¬ 9223372036854775807 < S.size + 2 + M.size + 2 := by omega
  have p5 : ¬ 9223372036854775807 < S.size + 2 + M.size + 2 + P.size := by omega
  have p6 : ¬ 9223372036854775807 < S.size + 2 + M.size + 2 + P.size + 7 := by omega
  obtain ⟨a7, ha7⟩ : ∃ a7, a7 = w7.alloc (.cells #[.string ⟨#[80, 85, 84]⟩, .string ⟨#[47, 120]⟩, .string ⟨#[97, 98, 99]⟩, .bool true] 24) := ⟨_, rfl⟩
  obtain ⟨g7, hg7⟩ : ∃ g, g = (w7 : World).heap.size := ⟨_, rfl⟩
  have B8 : Hid (Below w.heap.size w a7) := Lib.hid (by rw [ha7]; exact B7.out.alloc B7.out.size _)
  have Q8 : Hid (QAt g7 Hx.tPut [47, 120] Hx.tAbc true a7) := Lib.hid (by rw [ha7, hg7]; exact heap_alloc_new w7 _)
  clear B7
  go_wp2_with fail
  rw [← hg7, ← ha7]
  clear hg7 ha7
  refine (R1.out _ (HG.out.below B8.out) (Nat.le_trans h8 B8.out.size)).mono ?_
  rintro E w8 ⟨rfl, k8⟩
  obtain ⟨a8, ha8⟩ : ∃ a8, a8 = w8.alloc (.cells #[.string ⟨#[80, 85, 84]⟩, .string ⟨#[47, 120]⟩, .string ⟨#[97, 98, 99]⟩, .bool true] 24) := ⟨_, rfl⟩
  obtain ⟨g8, hg8⟩ : ∃ g, g = (w8 : World).heap.size := ⟨_, rfl⟩
  have B9 : Hid (Below w.heap.size w a8) := Lib.hid (by rw [ha8]; have b := B8.out.trans (k8.mono B8.out.size); exact b.alloc b.size _)
  have Q9 : Hid (QAt g7 Hx.tPut [47, 120] Hx.tAbc true a8) := Lib.hid (by rw [ha8]; exact (Q8.out.below k8).below ((Below.refl _ _).alloc (Nat.le_refl _) _))
  have P9 : Hid (QAt g8 Hx.tPut [47, 120] Hx.tAbc true a8) := Lib.hid (by rw [ha8, hg8]; exact heap_alloc_new w8 _)
  clear k8 B8 Q8 R1
  go_upto_region 9 with fail
  rw [← hg8, ← ha8]
  clear hg8 ha8
  obtain ⟨x0, x1, x2, x3, _⟩ : a8.cell? ⟨g7, 0, none⟩ = some (.string ⟨#[80, 85, 84]⟩) ∧ a8.cell? ⟨g7, 1, none⟩ = some (.string ⟨#[47, 120]⟩) ∧ a8.cell? ⟨g7, 2, none⟩ = some (.string ⟨#[97, 98, 99]⟩) ∧ a8.cell? ⟨g7, 3, none⟩ = some (.bool true) ∧ _ := Q9.out.cells
  obtain ⟨y0, y1, y2, y3, _⟩ : a8.cell? ⟨g8, 0, none⟩ = some (.string ⟨#[80, 85, 84]⟩) ∧ a8.cell? ⟨g8, 1, none⟩ = some (.string ⟨#[47, 120]⟩) ∧ a8.cell? ⟨g8, 2, none⟩ = some (.string ⟨#[97, 98, 99]⟩) ∧ a8.cell? ⟨g8, 3, none⟩ = some (.bool true) ∧ _ := P9.out.cells
  go_wp2_with fail
  refine (CM.out _).mono ?_
  rintro E w9 ⟨rfl, k9⟩
  have B10 := Lib.hid (B9.out.trans (k9.mono B9.out.size)); have Q10 := Lib.hid (Q9.out.below k9)
  clear k9 B9 Q9 P9 x0 x1 x2 x3 y0 y1 y2 y3
  go_wp2_with fail
  refine (CP.out _).mono ?_
  rintro E w10 ⟨rfl, k10⟩
  have B11 := Lib.hid (B10.out.trans (k10.mono B10.out.size)); have Q11 := Lib.hid (Q10.out.below k10)
  clear k10 B10 Q10
  go_wp2_with fail
  rw [← HX2.out]
  refine (R2.out _ (HG.out.below B11.out) (Nat.le_trans h8 B11.out.size)).mono ?_
  rintro E w11 ⟨rfl, k11⟩
  obtain ⟨a11, ha11⟩ : ∃ a, a = w11.alloc (.cells #[.string ⟨#[80, 85, 84]⟩, .string ⟨#[47, 120]⟩, .string ⟨#[97, 98, 99]⟩, .bool true] 24) := ⟨_, rfl⟩
  obtain ⟨g11, hg11⟩ : ∃ g, g = (w11 : World).heap.size := ⟨_, rfl⟩
  have B12 : Hid (Below w.heap.size w a11) := Lib.hid (by rw [ha11]; have b := B11.out.trans (k11.mono B11.out.size); exact b.alloc b.size _)
  have Q12 : Hid (QAt g7 Hx.tPut [47, 120] Hx.tAbc true a11) := Lib.hid (by rw [ha11]; exact (Q11.out.below k11).below ((Below.refl _ _).alloc (Nat.le_refl _) _))
  have P12 : Hid (QAt g11 Hx.tPut [47, 120] Hx.tAbc true a11) := Lib.hid (by rw [ha11, hg11]; exact heap_alloc_new w11 _)
  clear k11 B11 Q11 R2 p1 p2 p3 p4 p5 p6
  go_upto_region 13 with fail
  rw [← hg11, ← ha11]
  clear hg11 ha11
  obtain ⟨x0, x1, x2, x3, _⟩ : a11.cell? ⟨g7, 0, none⟩ = some (.string ⟨#[80, 85, 84]⟩) ∧ a11.cell? ⟨g7, 1, none⟩ = some (.string ⟨#[47, 120]⟩) ∧ a11.cell? ⟨g7, 2, none⟩ = some (.string ⟨#[97, 98, 99]⟩) ∧ a11.cell? ⟨g7, 3, none⟩ = some (.bool true) ∧ _ := Q12.out.cells
  obtain ⟨y0, y1, y2, y3, _⟩ : a11.cell? ⟨g11, 0, none⟩ = some (.string ⟨#[80, 85, 84]⟩) ∧ a11.cell? ⟨g11, 1, none⟩ = some (.string ⟨#[47, 120]⟩) ∧ a11.cell? ⟨g11, 2, none⟩ = some (.string ⟨#[97, 98, 99]⟩) ∧ a11.cell? ⟨g11, 3, none⟩ = some (.bool true) ∧ _ := P12.out.cells
  go_wp2_with fail
  go_ret
  exact ⟨rfl, B12.out⟩

theorem names_calls (bits order : Int) (nm vl : Hx.Bytes) (w : World) (hg : Glb w) (ht : Tb w) (h8 : 8 ≤ w.heap.size) (ha0 : -9223372036854775808 ≤ order) (ha1 : order ≤ 9223372036854775807) :
    Calls Tryz.prog 6 #[.int .i64 bits, .int .i64 order, .string ⟨nm.toArray⟩, .string ⟨vl.toArray⟩] w (LawPost w) := by
  by_cases ho : 60 < nm.length ∨ 200 < vl.length
  · exact names_out bits order nm vl w hg ht h8 ho
  · exact names_main bits order nm vl w hg ht h8 (by omega) (by omega) ha0 ha1
end Go.Proofs.YthdmdafhldicmaaGreatDoor
