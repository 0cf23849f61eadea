/- WALKS: Read. -/
import Derived.Test.YthdmdafhldicmaaGreatDoorHu
namespace Go.Proofs.YthdmdafhldicmaaGreatDoor
open Go.RowKit Go.Maps Go.WideMaps

set_option maxRecDepth 100000 in
set_option maxHeartbeats 4000000 in
theorem read_calls (s : ByteArray) (w : World) (hs : s.size ≤ 90000) (hg : Glb w) (h8 : 8 ≤ w.heap.size) :
    Calls Tryz.prog 11 #[.string s] w (ReadPost (Hx.read s.data.toList) w) := by
  obtain ⟨R, hR⟩ : ∃ R, R = Hx.read s.data.toList := ⟨_, rfl⟩
  have hbad := fun h => read_bad (s := s.data.toList) h
  obtain ⟨G, hG⟩ : ∃ G, G = w.heap.size := ⟨_, rfl⟩
  obtain ⟨w1, hw1⟩ : ∃ w1, w1 = w.alloc (.cells #[.string ⟨#[]⟩, .string ⟨#[]⟩, .string ⟨#[]⟩, .bool false] 24) := ⟨_, rfl⟩
  have Q1 : QAt G [] [] [] false w1 := by rw [hw1, hG]; exact QAt.new w
  have B1 : Below w.heap.size w w1 := by rw [hw1]; exact (Below.refl _ w).alloc (Nat.le_refl _) _
  obtain ⟨b, hb⟩ : ∃ b, b = w1.heap.size := ⟨_, rfl⟩
  have hb3 : G + 1 = b := by rw [hb, hw1, hG]; simp
  have hGb : G < b := by rw [hb]; exact heap_lt Q1
  obtain ⟨w2, hw2⟩ : ∃ w2, w2 = w1.alloc (.cells #[.string s, .int .i64 0] 47) := ⟨_, rfl⟩
  have Q2 : QAt G [] [] [] false w2 := by rw [hw2]; unfold QAt; rw [Below.heap_alloc _ _ _ (by omega)]; exact Q1
  have H2 : Hr b s 0 w2 := by rw [hw2, hb]; exact reader_new w1 s
  have B2 : Below w.heap.size w w2 := by rw [hw2]; exact B1.alloc (by omega) _
  have RC := Lib.hid (request_calls s b w2 H2 hs (hg.below B2) (by omega))
  rw [← hR] at RC
  rw [← hR]
  simp only [← hR] at hbad
  have HB := Lib.hid hbad
  have Q2 := Lib.hid Q2; have B2 := Lib.hid B2
  clear hR hbad hg Q1 B1 H2
  go_enter Tryz.func11, Tryz.ntmps11
  go_upto_region 2 with fail
  rw [← hG, hb3, ← hw1, ← hw2]
  have hGw : w.heap.size ≤ G := by omega
  clear hw1 hw2 hb hb3 hG
  go_wp2_with fail
  refine RC.out.mono ?_
  rintro e w3 ⟨k, m, p, bd, c, rfl, hyes⟩
  have Q3 := Lib.hid (Q2.out.mv k (by omega)); have B3 := Lib.hid (Mv.to_below B2.out k (by omega) B2.out.size)
  have HY := Lib.hid hyes
  obtain ⟨w4, hw4⟩ : ∃ w4, w4 = w3.alloc (.cells #[.string ⟨m.toArray⟩, .string ⟨p.toArray⟩, .string ⟨bd.toArray⟩, .bool c] 24) := ⟨_, rfl⟩
  obtain ⟨g, hg⟩ : ∃ g, g = (w3 : World).heap.size := ⟨_, rfl⟩
  have hGg : G < g := by rw [hg]; exact heap_lt Q3.out
  have Q4 : Hid (QAt G [] [] [] false w4) := Lib.hid (by rw [hw4]; unfold QAt; rw [Below.heap_alloc _ _ _ (by omega)]; exact Q3.out)
  have P4 : Hid (QAt g m p bd c w4) := Lib.hid (by rw [hw4, hg]; exact heap_alloc_new w3 _)
  have B4 : Hid (Below w.heap.size w w4) := Lib.hid (by rw [hw4]; exact B3.out.alloc B3.out.size _)
  clear k hyes Q2 B2 RC
  by_cases h200 : R.2.2 = 200
  · obtain ⟨hr1, hh⟩ := HY.out h200
    have H4 : Hid (Hr b s R.2.1 w4) := Lib.hid (by rw [hw4]; exact hh.alloc _)
    obtain ⟨rq, rk, rs⟩ := R
    simp only at h200 hr1 H4 ⊢
    subst h200 hr1
    clear Q3 B3 HY hh HB
    unfold qv
    go_upto_region 3 with fail
    rw [← hg, ← hw4]
    clear hg hw4
    obtain ⟨a0, a1, a2, a3, af⟩ := Q4.out.cells
    have af0 := af 0; have af1 := af 1; have af2 := af 2; have af3 := af 3
    obtain ⟨b0, b1, b2, b3, bf⟩ := P4.out.cells
    have c1 := H4.out.c1
    clear af bf
    have Z := Lib.hid (Q4.out.put m p bd c)
    go_wp2_with fail
    go_region
    go_wp2_with fail
    obtain ⟨z0, z1, z2, z3, _⟩ := Z.out.cells
    (try simp only [Exit.inBlock, Exit.then])
    refine bodyPost_ret (v := .tuple #[qv m p bd c, .int .i64 rk, .int .i64 200]) (by simp [results, Tryz.results11, go_sem, z0, z1, z2, z3, qv]) rfl ?_
    exact ⟨rfl, below_dN ((((B4.out.setCell (p := ⟨G, 0, none⟩) hGw _).setCell (p := ⟨G, 1, none⟩) hGw _).setCell (p := ⟨G, 2, none⟩) hGw _).setCell (p := ⟨G, 3, none⟩) hGw _) 1⟩
  · have hr := HB.out h200
    have HR := Lib.hid hr
    obtain ⟨rq, rk, rs⟩ := R
    simp only at h200 ⊢
    have n3 : ((rs : Int) != 200) = true := by rw [bne_iff_ne]; omega
    clear Q3 B3 HY HB hr h200
    unfold qv
    go_upto_region 3 with fail
    rw [← hg, ← hw4]
    clear hg hw4
    obtain ⟨a0, a1, a2, a3, af⟩ := Q4.out.cells
    have af0 := af 0; have af1 := af 1; have af2 := af 2; have af3 := af 3
    clear af
    have Z := Lib.hid (Q4.out.put [] [] [] false)
    go_wp2_with fail
    obtain ⟨z0, z1, z2, z3, _⟩ := Z.out.cells
    (try simp only [Exit.inBlock, Exit.then])
    refine bodyPost_ret (v := .tuple #[qv [] [] [] false, .int .i64 0, .int .i64 rs]) (by simp [results, Tryz.results11, go_sem, z0, z1, z2, z3, qv]) rfl ?_
    have hr := HR.out
    injection hr with h1 h2
    injection h2 with h2 h3
    subst h1 h2
    exact ⟨rfl, (((B4.out.setCell (p := ⟨G, 0, none⟩) hGw _).setCell (p := ⟨G, 1, none⟩) hGw _).setCell (p := ⟨G, 2, none⟩) hGw _).setCell (p := ⟨G, 3, none⟩) hGw _⟩
end Go.Proofs.YthdmdafhldicmaaGreatDoor
