/- WALKS: shown: the examples that stand at the head of all statements. -/
import Derived.Test.YthdmdafhldicmaaGreatDoorHv
import Derived.Test.YthdmdafhldicmaaGreatDoorHw
namespace Go.Proofs.YthdmdafhldicmaaGreatDoor
open Go.RowKit Go.Maps Go.WideMaps

def sRead1 : Hx.Bytes := [80, 79, 83, 84, 32, 47, 97, 32, 72, 84, 84, 80, 47, 49, 46, 49, 13, 10, 72, 111, 115, 116, 58, 32, 120, 13, 10, 67, 111, 110, 116, 101, 110, 116, 45, 76, 101, 110, 103, 116, 104, 58, 32, 50, 13, 10, 13, 10, 104, 105, 80, 79, 83, 84]
theorem shown_read1 (s : ByteArray) (w : World) (hs : s.data.toList = sRead1) (hg : Glb w) (h8 : 8 ≤ w.heap.size) :
    Calls Tryz.prog 11 #[.string s] w fun e w' => e = .returned (.tuple #[.agg #[.string ⟨#[80, 79, 83, 84]⟩, .string ⟨#[47, 97]⟩, .string ⟨#[104, 105]⟩, .bool false], .int .i64 50, .int .i64 200]) ∧ Below w.heap.size w w' := by
  have hl : s.size ≤ 90000 := by
    have h := congrArg List.length hs
    rw [show sRead1.length = 54 from by decide +kernel] at h
    have h2 : s.data.toList.length = s.size := rfl
    omega
  have e1 : (Hx.read sRead1).1.method = [80, 79, 83, 84] := by decide +kernel
  have e2 : (Hx.read sRead1).1.path = [47, 97] := by decide +kernel
  have e3 : (Hx.read sRead1).1.body = [104, 105] := by decide +kernel
  have e4 : (Hx.read sRead1).1.close = false := by decide +kernel
  have e5 : (Hx.read sRead1).2.1 = 50 := by decide +kernel
  have e6 : (Hx.read sRead1).2.2 = 200 := by decide +kernel
  refine (read_calls s w hl hg h8).mono ?_
  rintro e w' ⟨rfl, k⟩
  rw [hs, e1, e2, e3, e4, e5, e6]
  exact ⟨rfl, k⟩
def sRead2 : Hx.Bytes := [71, 69, 84, 32, 47, 32, 72, 84, 84, 80, 47, 49, 46, 49, 13, 10, 13, 10]
theorem shown_read2 (s : ByteArray) (w : World) (hs : s.data.toList = sRead2) (hg : Glb w) (h8 : 8 ≤ w.heap.size) :
    Calls Tryz.prog 11 #[.string s] w fun e w' => e = .returned (.tuple #[.agg #[.string ⟨#[]⟩, .string ⟨#[]⟩, .string ⟨#[]⟩, .bool false], .int .i64 0, .int .i64 400]) ∧ Below w.heap.size w w' := by
  have hl : s.size ≤ 90000 := by
    have h := congrArg List.length hs
    rw [show sRead2.length = 18 from by decide +kernel] at h
    have h2 : s.data.toList.length = s.size := rfl
    omega
  have e1 : (Hx.read sRead2).1.method = [] := by decide +kernel
  have e2 : (Hx.read sRead2).1.path = [] := by decide +kernel
  have e3 : (Hx.read sRead2).1.body = [] := by decide +kernel
  have e4 : (Hx.read sRead2).1.close = false := by decide +kernel
  have e5 : (Hx.read sRead2).2.1 = 0 := by decide +kernel
  have e6 : (Hx.read sRead2).2.2 = 400 := by decide +kernel
  refine (read_calls s w hl hg h8).mono ?_
  rintro e w' ⟨rfl, k⟩
  rw [hs, e1, e2, e3, e4, e5, e6]
  exact ⟨rfl, k⟩
def sRead3 : Hx.Bytes := [71, 69, 84, 32, 47, 32, 72, 84, 84, 80, 47, 49, 46, 48, 13, 10]
theorem shown_read3 (s : ByteArray) (w : World) (hs : s.data.toList = sRead3) (hg : Glb w) (h8 : 8 ≤ w.heap.size) :
    Calls Tryz.prog 11 #[.string s] w fun e w' => e = .returned (.tuple #[.agg #[.string ⟨#[]⟩, .string ⟨#[]⟩, .string ⟨#[]⟩, .bool false], .int .i64 0, .int .i64 400]) ∧ Below w.heap.size w w' := by
  have hl : s.size ≤ 90000 := by
    have h := congrArg List.length hs
    rw [show sRead3.length = 16 from by decide +kernel] at h
    have h2 : s.data.toList.length = s.size := rfl
    omega
  have e1 : (Hx.read sRead3).1.method = [] := by decide +kernel
  have e2 : (Hx.read sRead3).1.path = [] := by decide +kernel
  have e3 : (Hx.read sRead3).1.body = [] := by decide +kernel
  have e4 : (Hx.read sRead3).1.close = false := by decide +kernel
  have e5 : (Hx.read sRead3).2.1 = 0 := by decide +kernel
  have e6 : (Hx.read sRead3).2.2 = 400 := by decide +kernel
  refine (read_calls s w hl hg h8).mono ?_
  rintro e w' ⟨rfl, k⟩
  rw [hs, e1, e2, e3, e4, e5, e6]
  exact ⟨rfl, k⟩
def sRead4 : Hx.Bytes := [71, 69, 84]
theorem shown_read4 (s : ByteArray) (w : World) (hs : s.data.toList = sRead4) (hg : Glb w) (h8 : 8 ≤ w.heap.size) :
    Calls Tryz.prog 11 #[.string s] w fun e w' => e = .returned (.tuple #[.agg #[.string ⟨#[]⟩, .string ⟨#[]⟩, .string ⟨#[]⟩, .bool false], .int .i64 0, .int .i64 0]) ∧ Below w.heap.size w w' := by
  have hl : s.size ≤ 90000 := by
    have h := congrArg List.length hs
    rw [show sRead4.length = 3 from by decide +kernel] at h
    have h2 : s.data.toList.length = s.size := rfl
    omega
  have e1 : (Hx.read sRead4).1.method = [] := by decide +kernel
  have e2 : (Hx.read sRead4).1.path = [] := by decide +kernel
  have e3 : (Hx.read sRead4).1.body = [] := by decide +kernel
  have e4 : (Hx.read sRead4).1.close = false := by decide +kernel
  have e5 : (Hx.read sRead4).2.1 = 0 := by decide +kernel
  have e6 : (Hx.read sRead4).2.2 = 0 := by decide +kernel
  refine (read_calls s w hl hg h8).mono ?_
  rintro e w' ⟨rfl, k⟩
  rw [hs, e1, e2, e3, e4, e5, e6]
  exact ⟨rfl, k⟩
def sRead5 : Hx.Bytes := [80, 79, 83, 84, 32, 47, 97, 32, 72, 84, 84, 80, 47, 49, 46, 49, 13, 10, 72, 111, 115, 116, 58, 32, 120, 13, 10, 84, 114, 97, 110, 115, 102, 101, 114, 45, 69, 110, 99, 111, 100, 105, 110, 103, 58, 32, 99, 104, 117, 110, 107, 101, 100, 13, 10, 13, 10, 50, 59, 120, 13, 10, 104, 105, 13, 10, 48, 13, 10, 13, 10]
theorem shown_read5 (s : ByteArray) (w : World) (hs : s.data.toList = sRead5) (hg : Glb w) (h8 : 8 ≤ w.heap.size) :
    Calls Tryz.prog 11 #[.string s] w fun e w' => e = .returned (.tuple #[.agg #[.string ⟨#[80, 79, 83, 84]⟩, .string ⟨#[47, 97]⟩, .string ⟨#[104, 105]⟩, .bool false], .int .i64 71, .int .i64 200]) ∧ Below w.heap.size w w' := by
  have hl : s.size ≤ 90000 := by
    have h := congrArg List.length hs
    rw [show sRead5.length = 71 from by decide +kernel] at h
    have h2 : s.data.toList.length = s.size := rfl
    omega
  have e1 : (Hx.read sRead5).1.method = [80, 79, 83, 84] := by decide +kernel
  have e2 : (Hx.read sRead5).1.path = [47, 97] := by decide +kernel
  have e3 : (Hx.read sRead5).1.body = [104, 105] := by decide +kernel
  have e4 : (Hx.read sRead5).1.close = false := by decide +kernel
  have e5 : (Hx.read sRead5).2.1 = 71 := by decide +kernel
  have e6 : (Hx.read sRead5).2.2 = 200 := by decide +kernel
  refine (read_calls s w hl hg h8).mono ?_
  rintro e w' ⟨rfl, k⟩
  rw [hs, e1, e2, e3, e4, e5, e6]
  exact ⟨rfl, k⟩
def sWrite : Hx.Bytes := [72, 84, 84, 80, 47, 49, 46, 49, 32, 50, 48, 48, 32, 79, 75, 13, 10, 67, 111, 110, 116, 101, 110, 116, 45, 84, 121, 112, 101, 58, 32, 97, 112, 112, 108, 105, 99, 97, 116, 105, 111, 110, 47, 106, 115, 111, 110, 13, 10, 67, 111, 110, 116, 101, 110, 116, 45, 76, 101, 110, 103, 116, 104, 58, 32, 50, 13, 10, 13, 10, 123, 125]
theorem shown_write (w : World) (ht : Tb w) :
    Calls Tryz.prog 18 #[.agg #[.int .i64 200, .string ⟨#[123, 125]⟩, .bool false]] w fun e w' => e = .returned (.string ⟨sWrite.toArray⟩) ∧ Below w.heap.size w w' := by
  have h := write_calls 200 [123, 125] false w ht (by decide) (by decide)
  have e : Hx.write 200 [123, 125] false = sWrite := by
    unfold Hx.write
    rw [Hx.dec_ge (by decide), Hx.dec_ge (by decide), Hx.dec_lt (by decide), Hx.dec_lt (by decide)]
    decide +kernel
  rw [e] at h
  exact h

theorem ret_eq {a b : Hx.Bytes} (h : a = b) : Ending.returned (.bool (a == b)) = .returned (.bool true) := by rw [h, beq_self_eq_true]

set_option maxRecDepth 100000 in
set_option maxHeartbeats 4000000 in
theorem shown_calls (w : World) (hg : Glb w) (ht : Tb w) (h8 : 8 ≤ w.heap.size) :
    Calls Tryz.prog 10 #[] w fun e w' => e = .returned (.bool true) ∧ Below w.heap.size w w' := by
  have HG := Lib.hid hg; have HT := Lib.hid (Lib.tabBelow_of_tabIs ht)
  have B0 := Lib.hid (Below.refl w.heap.size w)
  clear hg ht
  go_enter Tryz.func10, Tryz.ntmps10
  go_wp2_with fail
  refine (shown_read1 _ _ (by kernel_rfl) HG.out (Nat.le_trans h8 B0.out.size)).mono ?_
  rintro e v1 ⟨rfl, k1⟩
  obtain ⟨a1, ha1⟩ : ∃ a1, a1 = v1.alloc (.cells #[.string ⟨#[80, 79, 83, 84]⟩, .string ⟨#[47, 97]⟩, .string ⟨#[104, 105]⟩, .bool false] 24) := ⟨_, rfl⟩
  have B1 : Hid (Below w.heap.size w a1) := Lib.hid (by rw [ha1]; have b := B0.out.trans (k1.mono B0.out.size); exact b.alloc b.size _)
  obtain ⟨Pg, hPg⟩ : ∃ g, g = v1.heap.size := ⟨_, rfl⟩
  have P : Hid (QAt Pg [80, 79, 83, 84] [47, 97] [104, 105] false a1) := Lib.hid (by rw [ha1, hPg]; exact heap_alloc_new v1 _)
  clear k1 B0
  go_wp2_with fail
  rw [← hPg, ← ha1]
  clear ha1 hPg
  refine (shown_read2 _ _ (by kernel_rfl) (HG.out.below B1.out) (Nat.le_trans h8 B1.out.size)).mono ?_
  rintro e v2 ⟨rfl, k2⟩
  obtain ⟨a2, ha2⟩ : ∃ a2, a2 = v2.alloc (.cells #[.string ⟨#[]⟩, .string ⟨#[]⟩, .string ⟨#[]⟩, .bool false] 24) := ⟨_, rfl⟩
  have B2 : Hid (Below w.heap.size w a2) := Lib.hid (by rw [ha2]; have b := B1.out.trans (k2.mono B1.out.size); exact b.alloc b.size _)
  have P : Hid (QAt Pg [80, 79, 83, 84] [47, 97] [104, 105] false a2) := Lib.hid (by rw [ha2]; exact (P.out.below k2).below ((Below.refl _ _).alloc (Nat.le_refl _) _))
  clear k2 B1
  go_wp2_with fail
  rw [← ha2]
  clear ha2
  refine (shown_read3 _ _ (by kernel_rfl) (HG.out.below B2.out) (Nat.le_trans h8 B2.out.size)).mono ?_
  rintro e v3 ⟨rfl, k3⟩
  obtain ⟨a3, ha3⟩ : ∃ a3, a3 = v3.alloc (.cells #[.string ⟨#[]⟩, .string ⟨#[]⟩, .string ⟨#[]⟩, .bool false] 24) := ⟨_, rfl⟩
  have B3 : Hid (Below w.heap.size w a3) := Lib.hid (by rw [ha3]; have b := B2.out.trans (k3.mono B2.out.size); exact b.alloc b.size _)
  have P : Hid (QAt Pg [80, 79, 83, 84] [47, 97] [104, 105] false a3) := Lib.hid (by rw [ha3]; exact (P.out.below k3).below ((Below.refl _ _).alloc (Nat.le_refl _) _))
  clear k3 B2
  go_wp2_with fail
  rw [← ha3]
  clear ha3
  refine (shown_read4 _ _ (by kernel_rfl) (HG.out.below B3.out) (Nat.le_trans h8 B3.out.size)).mono ?_
  rintro e v4 ⟨rfl, k4⟩
  obtain ⟨a4, ha4⟩ : ∃ a4, a4 = v4.alloc (.cells #[.string ⟨#[]⟩, .string ⟨#[]⟩, .string ⟨#[]⟩, .bool false] 24) := ⟨_, rfl⟩
  have B4 : Hid (Below w.heap.size w a4) := Lib.hid (by rw [ha4]; have b := B3.out.trans (k4.mono B3.out.size); exact b.alloc b.size _)
  have P : Hid (QAt Pg [80, 79, 83, 84] [47, 97] [104, 105] false a4) := Lib.hid (by rw [ha4]; exact (P.out.below k4).below ((Below.refl _ _).alloc (Nat.le_refl _) _))
  clear k4 B3
  go_wp2_with fail
  rw [← ha4]
  clear ha4
  refine (shown_read5 _ _ (by kernel_rfl) (HG.out.below B4.out) (Nat.le_trans h8 B4.out.size)).mono ?_
  rintro e v5 ⟨rfl, k5⟩
  obtain ⟨a5, ha5⟩ : ∃ a5, a5 = v5.alloc (.cells #[.string ⟨#[80, 79, 83, 84]⟩, .string ⟨#[47, 97]⟩, .string ⟨#[104, 105]⟩, .bool false] 24) := ⟨_, rfl⟩
  have B5 : Hid (Below w.heap.size w a5) := Lib.hid (by rw [ha5]; have b := B4.out.trans (k5.mono B4.out.size); exact b.alloc b.size _)
  have P : Hid (QAt Pg [80, 79, 83, 84] [47, 97] [104, 105] false a5) := Lib.hid (by rw [ha5]; exact (P.out.below k5).below ((Below.refl _ _).alloc (Nat.le_refl _) _))
  obtain ⟨Rg, hRg⟩ : ∃ g, g = v5.heap.size := ⟨_, rfl⟩
  have R : Hid (QAt Rg [80, 79, 83, 84] [47, 97] [104, 105] false a5) := Lib.hid (by rw [ha5, hRg]; exact heap_alloc_new v5 _)
  clear k5 B4
  go_upto_region 7 with fail
  rw [← hRg, ← ha5]
  clear ha5 hRg
  obtain ⟨W, hW⟩ : ∃ W, W = a5.alloc (.cells #[.string ⟨#[80, 79, 83, 84]⟩, .string ⟨#[47, 97]⟩, .string ⟨#[104, 105]⟩, .bool false] 24) := ⟨_, rfl⟩
  obtain ⟨g, hg⟩ : ∃ g, g = a5.heap.size := ⟨_, rfl⟩
  have B6 : Hid (Below w.heap.size w W) := Lib.hid (by rw [hW]; exact B5.out.alloc B5.out.size _)
  have P6 : Hid (QAt Pg [80, 79, 83, 84] [47, 97] [104, 105] false W) := Lib.hid (by rw [hW]; exact P.out.below ((Below.refl _ _).alloc (Nat.le_refl _) _))
  have R6 : Hid (QAt Rg [80, 79, 83, 84] [47, 97] [104, 105] false W) := Lib.hid (by rw [hW]; exact R.out.below ((Below.refl _ _).alloc (Nat.le_refl _) _))
  have W6 : Hid (QAt g [80, 79, 83, 84] [47, 97] [104, 105] false W) := Lib.hid (by rw [hW, hg]; exact heap_alloc_new a5 _)
  clear B5 P R
  go_upto_region 8 with fail
  rw [← hg, ← hW]
  clear hg hW
  obtain ⟨a0, a1, a2, a3, _⟩ := P6.out.cells
  obtain ⟨b0, b1, b2, b3, _⟩ := R6.out.cells
  obtain ⟨c0, c1, c2, c3, _⟩ := W6.out.cells
  go_wp2_with fail
  refine (shown_write _ (HT.out _ B6.out)).mono ?_
  rintro e w9 ⟨rfl, k⟩
  have B9 := Lib.hid (B6.out.trans (k.mono B6.out.size))
  clear k a0 a1 a2 a3 b0 b1 b2 b3 c0 c1 c2 c3
  go_wp2_with fail
  go_ret
  exact ⟨ret_eq (by kernel_rfl), B9.out⟩

theorem ret_bb {a b : ByteArray} (h : a = b) : Ending.returned (.bool (a.toList == b.toList)) = .returned (.bool true) := ret_eq (congrArg ByteArray.toList h)
/-- What a law comes to. -/
def LawPost (w : World) (e : Ending) (w' : World) : Prop := e = .returned (.bool true) ∧ Below w.heap.size w w'

/-- Read at a text, in names. -/
theorem readN (l : Hx.Bytes) (s : ByteArray) (w : World) (hl : s.data.toList = l) (hs : l.length ≤ 90000) (hg : Glb w) (h8 : 8 ≤ w.heap.size) (m p bd : Hx.Bytes) (c : Bool) (n e : Nat) (hr : Hx.read l = (⟨m, p, bd, c⟩, n, e)) :
    Calls Tryz.prog 11 #[.string s] w fun E w' => E = .returned (.tuple #[.agg #[.string ⟨m.toArray⟩, .string ⟨p.toArray⟩, .string ⟨bd.toArray⟩, .bool c], .int .i64 n, .int .i64 e]) ∧ Below w.heap.size w w' := by
  have h2 : s.data.toList.length = s.size := rfl
  refine (read_calls s w (by rw [← h2, hl]; exact hs) hg h8).mono ?_
  rintro e w' ⟨rfl, k⟩
  rw [hl, hr]
  exact ⟨rfl, k⟩
theorem readN_split (l : Hx.Bytes) : ∃ m p bd c n e, Hx.read l = (⟨m, p, bd, c⟩, n, e) := by
  generalize Hx.read l = r
  obtain ⟨⟨m, p, bd, c⟩, n, e⟩ := r
  exact ⟨m, p, bd, c, n, e, rfl⟩
end Go.Proofs.YthdmdafhldicmaaGreatDoor
