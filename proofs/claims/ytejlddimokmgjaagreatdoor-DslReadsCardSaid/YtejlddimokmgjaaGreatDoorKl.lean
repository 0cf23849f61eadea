/- WALKS: the laws' helpers: decimal, sameOps. WALKS: the law's helpers: wrong, shown. -/
import Derived.Test.YtejlddimokmgjaaGreatDoorKk
import Derived.Test.YtejlddimokmgjaaGreatDoorKh
namespace Go.Proofs.YtejlddimokmgjaaGreatDoor
open Go.RowKit

/-- What 'sameOps' answers. -/
def SameOps (a b : List Dx.Op) (w : World) (e : Ending) (w' : World) : Prop := ∃ r : Bool, e = .returned (.bool r) ∧ (r = true ↔ a = b) ∧ Below w.heap.size w w'

set_option maxRecDepth 100000 in
set_option maxHeartbeats 2000000 in
theorem sameOps_calls (qs rs : List Dx.Op) (sa sb : Value) (w : World) (ok ok2 : Nat → Prop) (hM : qs.length ≤ 1000000) (hq : ORow w ok sa qs) (hr : ORow w ok2 sb rs) :
    Calls Tryz.prog 13 #[sa, sb] w (SameOps qs rs w) := by
  obtain ⟨a, c, rfl⟩ := hq.shape
  obtain ⟨a', c', rfl⟩ := hr.shape
  have Q := Lib.hid hq.all; have R := Lib.hid hr.all
  clear hq hr
  by_cases hn : qs.length = rs.length
  rotate_left
  · have NE := Lib.hid (show ¬ (qs = rs) from fun h => hn (by rw [h]))
    have hne : ((qs.length : Int) != (rs.length : Int)) = true := by rw [bne_iff_ne]; omega
    go_enter Tryz.func13, Tryz.ntmps13
    go_wp2_with fail
    go_ret
    exact ⟨false, rfl, ⟨(fun h => by cases h), fun h => absurd h NE.out⟩, Below.refl _ w⟩
  have hne : ((qs.length : Int) != (rs.length : Int)) = false := by rw [hn]; simp
  have HNN := Lib.hid hn
  clear hn
  go_enter Tryz.func13, Tryz.ntmps13
  go_wp2_with fail
  go_loopg [5] (qs.length) (fun q z wr => ∃ (i : Nat), z = .int .i64 i ∧ q = qs.length - i ∧ i ≤ qs.length ∧ Hid (qs.take i = rs.take i) ∧ Hid (Below w.heap.size w wr))
  case atStart => exact ⟨0, rfl, rfl, Nat.zero_le _, Lib.hid rfl, Lib.hid (Below.refl _ w)⟩
  case round =>
    obtain ⟨i, rfl, hq, hi, hks, hb⟩ := hrel
    have HQ := Lib.hid hq
    clear hq
    rcases Nat.lt_or_ge i qs.length with hlt | hge
    · have hlt2 : i < rs.length := by rw [← HNN.out]; exact hlt
      obtain ⟨k, hk⟩ : ∃ k, qs[i]? = some k := ⟨qs[i], by simp [hlt]⟩
      obtain ⟨k', hk'⟩ : ∃ k', rs[i]? = some k' := ⟨rs[i], by simp [hlt2]⟩
      obtain ⟨g, o, ha, _, hgl, e0, e1, e2⟩ := ORow.op Q.out hk
      obtain ⟨g', o', ha', _, hgl', f0, f1, f2⟩ := ORow.op R.out hk'
      subst ha ha'
      have b0 := (hb.out.cell (p := ⟨g, o + i * 3, none⟩) hgl).trans e0
      have b1 := (hb.out.cell (p := ⟨g, o + i * 3 + 1, none⟩) hgl).trans e1
      have b2 := (hb.out.cell (p := ⟨g, o + i * 3 + 2, none⟩) hgl).trans e2
      have c0 := (hb.out.cell (p := ⟨g', o' + i * 3, none⟩) hgl').trans f0
      have c1 := (hb.out.cell (p := ⟨g', o' + i * 3 + 1, none⟩) hgl').trans f1
      have c2 := (hb.out.cell (p := ⟨g', o' + i * 3 + 2, none⟩) hgl').trans f2
      have HK := Lib.hid hk; have HK2 := Lib.hid hk'
      have hltI : decide ((i : Int) < (qs.length : Int)) = true := by simp; omega
      have hltA : (i : Int) < (qs.length : Int) := by omega
      have hltB : (i : Int) < (rs.length : Int) := by omega
      clear e0 e1 e2 hk hk' f0 f1 f2
      have HB5 := Lib.hid hb.out.drew
      by_cases hkk : k = k'
      · subst hkk
        go_wp2_with fail
        go_region
        go_wp2_with fail
        go_roundg (qs.length - (i + 1))
        case measure => have := HQ.out; omega
        case rel => exact ⟨i + 1, by go_num, rfl, by omega, Lib.hid (takeQ_eq hks.out HK.out HK2.out rfl), HB5⟩
      · have NE := Lib.hid (show ¬ (qs = rs) from fun h => by
          have h1 := HK.out; have h2 := HK2.out
          rw [h, h2] at h1
          injection h1 with h1
          exact hkk h1.symm)
        obtain ⟨d, x, y⟩ := k
        obtain ⟨d', x', y'⟩ := k'
        have hne3 : ¬ d = d' ∨ (d = d' ∧ ¬ x = x') ∨ (d = d' ∧ x = x' ∧ ¬ y = y') := by
          by_cases h1 : d = d'
          · by_cases h2 : x = x'
            · by_cases h3 : y = y'
              · exact absurd (by rw [h1, h2, h3]) hkk
              · exact .inr (.inr ⟨h1, h2, h3⟩)
            · exact .inr (.inl ⟨h1, h2⟩)
          · exact .inl h1
        clear hkk HK HK2
        simp only at b0 b1 b2 c0 c1 c2
        rcases hne3 with h1 | ⟨rfl, h2⟩ | ⟨rfl, rfl, h3⟩
        all_goals
          go_wp2_with fail
          go_region
          go_wp2_with fail
          go_ret
          exact ⟨false, rfl, ⟨(fun h => by cases h), fun h => absurd h NE.out⟩, HB5.out⟩
    · have hik : i = qs.length := by omega
      subst hik
      have hltI : decide ((qs.length : Int) < (qs.length : Int)) = false := by simp
      have HKS : Hid (qs = rs) := Lib.hid (by have := hks.out; rw [List.take_length, HNN.out, List.take_length] at this; exact this)
      go_wp2_with fail
      go_ret
      exact ⟨true, rfl, ⟨fun _ => HKS.out, fun _ => rfl⟩, hb.out⟩
end Go.Proofs.YtejlddimokmgjaaGreatDoor
namespace Go.Proofs.YtejlddimokmgjaaGreatDoor
open Go.RowKit

set_option maxRecDepth 100000 in
set_option maxHeartbeats 2000000 in
theorem wrong_true (s : List UInt8) (c : Nat) (w : World) (hg : Glb w) (h8 : 8 ≤ w.heap.size) (hp : Dx.search s = .error c) :
    Calls Tryz.prog 31 #[.string ⟨s.toArray⟩, .int .i64 c] w fun e w' => e = .returned (.bool true) ∧ Below w.heap.size w w' := by
  have HG := Lib.hid hg; have HP := Lib.hid (searchT_error hp)
  clear hg hp
  go_enter Tryz.func31, Tryz.ntmps31
  go_wp2_with fail
  refine (search_calls s w HG.out h8).mono ?_
  rintro e w5 ⟨cs, rfl, hq, hb⟩
  rw [HP.out] at hq ⊢
  obtain ⟨sa, sb, sc, rfl, ra, rb, rc⟩ := hq.rows
  obtain ⟨aa, ca, rfl⟩ := ra.shape
  obtain ⟨ab, cb, rfl⟩ := rb.shape
  obtain ⟨ac, cc, rfl⟩ := rc.shape
  have HB := Lib.hid hb
  clear hq hb ra rb rc HP
  simp only
  go_wp2_with fail
  go_ret
  exact ⟨rfl, HB.out.alloc HB.out.size _⟩

def sh1 : List UInt8 := [123, 34, 113, 117, 101, 114, 121, 34, 58, 123, 34, 116, 101, 114, 109, 34, 58, 34, 97, 34, 125, 44, 34, 115, 105, 122, 101, 34, 58, 53, 125]
def sh2 : List UInt8 := [123, 34, 113, 117, 101, 114, 121, 34, 58, 123, 34, 98, 111, 111, 108, 34, 58, 123, 34, 109, 117, 115, 116, 34, 58, 91, 123, 34, 109, 97, 116, 99, 104, 95, 97, 108, 108, 34, 58, 123, 125, 125, 93, 125, 125, 125]
def sh3 : List UInt8 := [123, 34, 105, 110, 100, 101, 120, 34, 58, 123, 34, 105, 100, 34, 58, 34, 97, 34, 44, 34, 116, 101, 120, 116, 34, 58, 34, 98, 34, 125, 125, 10, 123, 34, 100, 101, 108, 101, 116, 101, 34, 58, 123, 34, 105, 100, 34, 58, 34, 99, 34, 125, 125]
def shb1 : List UInt8 := [123, 34, 113, 117, 101, 114, 121, 34, 58, 123, 34, 116, 101, 114, 109, 34, 58, 49, 125, 125]
def shb2 : List UInt8 := [123, 125]
def shb3 : List UInt8 := [123, 34, 113, 117, 101, 114, 121, 34, 58, 123, 34, 109, 97, 116, 99, 104, 95, 97, 108, 108, 34, 58, 123, 125, 125, 44, 34, 120, 34, 58, 49, 125]
def shb4 : List UInt8 := [123]
theorem sh1_search : Dx.search sh1 = .ok (.mk 2 [97] [] [] [], 0, 5) := by kernel_rfl
theorem sh2_search : Dx.search sh2 = .ok (.mk 5 [] [.mk 1 [] [] [] []] [] [], 0, 10) := by kernel_rfl
theorem sh3_bulk : Dx.bulk sh3 = .ok [⟨false, [97], [98]⟩, ⟨true, [99], []⟩] := by kernel_rfl
theorem shb1_search : Dx.search shb1 = .error 18 := by kernel_rfl
theorem shb2_search : Dx.search shb2 = .error 18 := by kernel_rfl
theorem shb3_search : Dx.search shb3 = .error 18 := by kernel_rfl
theorem shb4_search : Dx.search shb4 = .error 7 := by kernel_rfl
theorem shb1_calls (w : World) (hg : Glb w) (h8 : 8 ≤ w.heap.size) : Calls Tryz.prog 31 #[.string ⟨#[123, 34, 113, 117, 101, 114, 121, 34, 58, 123, 34, 116, 101, 114, 109, 34, 58, 49, 125, 125]⟩, .int .i64 18] w fun e w' => e = .returned (.bool true) ∧ Below w.heap.size w w' := wrong_true shb1 18 w hg h8 shb1_search
theorem shb2_calls (w : World) (hg : Glb w) (h8 : 8 ≤ w.heap.size) : Calls Tryz.prog 31 #[.string ⟨#[123, 125]⟩, .int .i64 18] w fun e w' => e = .returned (.bool true) ∧ Below w.heap.size w w' := wrong_true shb2 18 w hg h8 shb2_search
theorem shb3_calls (w : World) (hg : Glb w) (h8 : 8 ≤ w.heap.size) : Calls Tryz.prog 31 #[.string ⟨#[123, 34, 113, 117, 101, 114, 121, 34, 58, 123, 34, 109, 97, 116, 99, 104, 95, 97, 108, 108, 34, 58, 123, 125, 125, 44, 34, 120, 34, 58, 49, 125]⟩, .int .i64 18] w fun e w' => e = .returned (.bool true) ∧ Below w.heap.size w w' := wrong_true shb3 18 w hg h8 shb3_search
theorem shb4_calls (w : World) (hg : Glb w) (h8 : 8 ≤ w.heap.size) : Calls Tryz.prog 31 #[.string ⟨#[123]⟩, .int .i64 7] w fun e w' => e = .returned (.bool true) ∧ Below w.heap.size w w' := wrong_true shb4 7 w hg h8 shb4_search
/-- Search answers so. -/
def SearchIs (q : Dx.Qy) (f n : Int) (w : World) (e : Ending) (w' : World) : Prop :=
  ∃ cs : List Value, e = .returned (.tuple #[.agg cs.toArray, .int .i64 f, .int .i64 n, .int .i64 0]) ∧ QyAt w' (fun g => w.heap.size ≤ g) q cs ∧ Below w.heap.size w w'
theorem SearchPost.is {s : List UInt8} {q : Dx.Qy} {f n : Int} (hs : Dx.search s = .ok (q, f, n)) {w : World} {e : Ending} {w' : World} (h : SearchPost s w e w') : SearchIs q f n w e w' := by
  unfold SearchPost at h
  rw [searchT_ok hs] at h
  exact h
theorem sh1_calls (w : World) (hg : Glb w) (h8 : 8 ≤ w.heap.size) : Calls Tryz.prog 11 #[.string ⟨#[123, 34, 113, 117, 101, 114, 121, 34, 58, 123, 34, 116, 101, 114, 109, 34, 58, 34, 97, 34, 125, 44, 34, 115, 105, 122, 101, 34, 58, 53, 125]⟩] w (SearchIs (.mk 2 [97] [] [] []) 0 5 w) := (search_calls sh1 w hg h8).mono fun _ _ h => h.is sh1_search
theorem sh2_calls (w : World) (hg : Glb w) (h8 : 8 ≤ w.heap.size) : Calls Tryz.prog 11 #[.string ⟨#[123, 34, 113, 117, 101, 114, 121, 34, 58, 123, 34, 98, 111, 111, 108, 34, 58, 123, 34, 109, 117, 115, 116, 34, 58, 91, 123, 34, 109, 97, 116, 99, 104, 95, 97, 108, 108, 34, 58, 123, 125, 125, 93, 125, 125, 125]⟩] w (SearchIs (.mk 5 [] [.mk 1 [] [] [] []] [] []) 0 10 w) := (search_calls sh2 w hg h8).mono fun _ _ h => h.is sh2_search
theorem sh3_calls (w : World) (hg : GlbD w) (h8 : 8 ≤ w.heap.size) : Calls Tryz.prog 12 #[.string ⟨#[123, 34, 105, 110, 100, 101, 120, 34, 58, 123, 34, 105, 100, 34, 58, 34, 97, 34, 44, 34, 116, 101, 120, 116, 34, 58, 34, 98, 34, 125, 125, 10, 123, 34, 100, 101, 108, 101, 116, 101, 34, 58, 123, 34, 105, 100, 34, 58, 34, 99, 34, 125, 125]⟩] w (BulkPost sh3 w) := bulk_calls sh3 w hg h8 (by decide)

/-- A block of a query: what lies there, beside what lies below it. -/
def QBox (g : Nat) (k : Int) (t : List UInt8) (sa sb sc : Value) (w : World) : Prop := w.heap[g]? = some (.cells #[.int .i64 k, .string ⟨t.toArray⟩, sa, sb, sc] 26 (0, 0))
theorem QBox.below {g : Nat} {k : Int} {t : List UInt8} {sa sb sc : Value} {w w' : World} (h : QBox g k t sa sb sc w) (b : Below w.heap.size w w') : QBox g k t sa sb sc w' := (b.block g (heap_lt h)).trans h
/-- A row of one query that has no lists, in a block that is known whole. -/
theorem QRow.laid1 {w : World} {g : Nat} {k : Int} (h : w.heap[g]? = some (.cells #[.int .i64 k, .string ⟨#[]⟩, .slice none 0 0, .slice none 0 0, .slice none 0 0] 26 (0, 0))) : QRow w (fun g => g < w.heap.size) (.slice (some ⟨g, 0, none⟩) 1 1) [.mk k [] [] [] []] := by
  refine ⟨[[.int .i64 k, .string ⟨#[]⟩, .slice none 0 0, .slice none 0 0, .slice none 0 0]], ?_, .inr ⟨Nat.one_pos, g, 0, 1, rfl, Nat.le_refl _, heap_lt h, heap_lt h, ?_⟩⟩
  · unfold QysAt
    exact ⟨_, [], rfl, QyAt.plain, by unfold QysAt; rfl⟩
  · intro j u hu
    simp only [World.cell?, h, Nat.zero_add]
    simpa using hu
theorem ORow.laid {w : World} {g n : Nat} {l : List Dx.Op} {xs : Array Value} {T : TypeId} (h : w.heap[g]? = some (.cells xs T (0, 0))) (hx : xs = (opsCells l).toArray) (hn : 0 < l.length) (e : n = l.length) : ORow w (fun g => g < w.heap.size) (.slice (some ⟨g, 0, none⟩) n n) l := by
  subst e
  refine .inr ⟨hn, g, 0, l.length, rfl, Nat.le_refl _, heap_lt h, heap_lt h, fun j u hu => ?_⟩
  subst hx
  simp only [World.cell?, h, Nat.zero_add]
  simpa using hu
theorem bulk_sh3 : bulkE sh3 = 0 ∧ bulkO sh3 = [⟨false, [97], [98]⟩, ⟨true, [99], []⟩] := by unfold bulkE bulkO; rw [sh3_bulk]; exact ⟨rfl, rfl⟩

set_option maxRecDepth 100000 in
set_option maxHeartbeats 4000000 in
theorem shown_calls (w : World) (hg : GlbD w) (h8 : 8 ≤ w.heap.size) :
    Calls Tryz.prog 9 #[] w fun e w' => e = .returned (.bool true) ∧ Below w.heap.size w w' := by
  have HG := Lib.hid hg
  have B0 := Lib.hid (Below.refl w.heap.size w)
  clear hg
  go_enter Tryz.func9, Tryz.ntmps9
  go_wp2_with fail
  refine (sh1_calls _ (HG.out.below B0.out).1 (Nat.le_trans h8 B0.out.size)).mono ?_
  rintro e v1 ⟨cs1, rfl, q1, k1⟩
  obtain ⟨sa1, sb1, sc1, rfl, ra1, rb1, rc1⟩ := q1.rows
  obtain ⟨aa1, ca1, rfl⟩ := ra1.shape
  obtain ⟨ab1, cb1, rfl⟩ := rb1.shape
  obtain ⟨ac1, cc1, rfl⟩ := rc1.shape
  simp only [List.length_nil] at q1 ⊢
  obtain ⟨g1, hg1⟩ : ∃ g, g = v1.heap.size := ⟨_, rfl⟩
  obtain ⟨x1, hx1⟩ : ∃ x, x = v1.alloc (.cells #[.int .i64 2, .string ⟨#[97]⟩, .slice aa1 0 ca1, .slice ab1 0 cb1, .slice ac1 0 cc1] 26) := ⟨_, rfl⟩
  have c1 : Below v1.heap.size v1 x1 := by rw [hx1]; exact (Below.refl _ _).alloc (Nat.le_refl _) _
  have P1 : Hid (QBox g1 2 [97] (.slice aa1 0 ca1) (.slice ab1 0 cb1) (.slice ac1 0 cc1) x1) := Lib.hid (by rw [hx1, hg1]; exact heap_alloc_new v1 _)
  have Q1 := Lib.hid (q1.all.below c1).all
  have B1 := Lib.hid (B0.out.trans ((k1.trans (c1.mono k1.size)).mono B0.out.size))
  clear q1 ra1 rb1 rc1 k1 c1 B0
  go_wp2_with fail
  rw [← hg1, ← hx1]
  clear hg1 hx1
  refine (sh2_calls _ (HG.out.below B1.out).1 (Nat.le_trans h8 B1.out.size)).mono ?_
  rintro e v2 ⟨cs2, rfl, q2, k2⟩
  obtain ⟨sa2, sb2, sc2, rfl, ra2, rb2, rc2⟩ := q2.rows
  obtain ⟨aa2, ca2, rfl⟩ := ra2.shape
  obtain ⟨ab2, cb2, rfl⟩ := rb2.shape
  obtain ⟨ac2, cc2, rfl⟩ := rc2.shape
  simp only [List.length_nil, List.length_cons, Nat.zero_add] at q2 ⊢
  obtain ⟨g2, hg2⟩ : ∃ g, g = v2.heap.size := ⟨_, rfl⟩
  obtain ⟨x2, hx2⟩ : ∃ x, x = v2.alloc (.cells #[.int .i64 5, .string ⟨#[]⟩, .slice aa2 1 ca2, .slice ab2 0 cb2, .slice ac2 0 cc2] 26) := ⟨_, rfl⟩
  have c2 : Below v2.heap.size v2 x2 := by rw [hx2]; exact (Below.refl _ _).alloc (Nat.le_refl _) _
  have P2 : Hid (QBox g2 5 [] (.slice aa2 1 ca2) (.slice ab2 0 cb2) (.slice ac2 0 cc2) x2) := Lib.hid (by rw [hx2, hg2]; exact heap_alloc_new v2 _)
  have Q2 := Lib.hid (q2.all.below c2).all
  have B2 := Lib.hid (B1.out.trans ((k2.trans (c2.mono k2.size)).mono B1.out.size))
  have P1b := Lib.hid ((P1.out.below k2).below c2)
  have Q1b := Lib.hid (Q1.out.below k2 |>.all.below c2).all
  clear q2 ra2 rb2 rc2 k2 c2 B1 P1 Q1
  go_wp2_with fail
  rw [← hg2, ← hx2]
  clear hg2 hx2
  refine (sh3_calls _ (HG.out.below B2.out) (Nat.le_trans h8 B2.out.size)).mono ?_
  rintro e x3 ⟨sv, rfl, o3, k3⟩
  rw [bulk_sh3.1]
  rw [bulk_sh3.2] at o3
  obtain ⟨a3, c3, rfl⟩ := ORow.shape o3
  have O3 := Lib.hid (ORow.all o3)
  have P1 := Lib.hid (P1b.out.below k3); have P2b := Lib.hid (P2.out.below k3)
  have Q1 := Lib.hid (Q1b.out.below k3).all; have Q2b := Lib.hid (Q2.out.below k3).all
  have B3 := Lib.hid (B2.out.trans (k3.mono B2.out.size))
  clear o3 k3 B2 P2 Q2 P1b Q1b
  obtain ⟨p0, p1, p2, p3, p4, _⟩ := cells5 P1.out
  go_wp2_with fail
  refine (sameQ_calls 1 (.mk 2 [97] [] [] []) (.mk 2 [97] [] [] []) [.int .i64 2, .string ⟨#[97]⟩, .slice aa1 0 ca1, .slice ab1 0 cb1, .slice ac1 0 cc1] [.int .i64 2, .string ⟨#[97]⟩, .slice none 0 0, .slice none 0 0, .slice none 0 0] x3 (fun g => g < x3.heap.size) (by decide) (by decide) Q1.out QyAt.plain).mono ?_
  rintro e x4 ⟨r, rfl, hr, k4⟩
  obtain rfl : r = true := hr.2 rfl
  have B4 := Lib.hid (B3.out.trans (k4.mono B3.out.size))
  have P2 := Lib.hid (P2b.out.below k4)
  have Q2 := Lib.hid (Q2b.out.below k4).all
  have O4 := Lib.hid (ORow.all (O3.out.below k4))
  clear hr k4 p0 p1 p2 p3 p4 P1 Q1 P2b Q2b B3 O3
  obtain ⟨p0, p1, p2, p3, p4, _⟩ := cells5 P2.out
  obtain ⟨g5, hg5⟩ : ∃ g, g = x4.heap.size := ⟨_, rfl⟩
  obtain ⟨x5, hx5⟩ : ∃ x, x = x4.alloc (.cells #[.int .i64 1, .string ⟨#[]⟩, .slice none 0 0, .slice none 0 0, .slice none 0 0] 26) := ⟨_, rfl⟩
  have c5 : Below x4.heap.size x4 x5 := by rw [hx5]; exact (Below.refl _ _).alloc (Nat.le_refl _) _
  have R5 : Hid (QRow x5 (fun g => g < x5.heap.size) (.slice (some ⟨g5, 0, none⟩) 1 1) [.mk 1 [] [] [] []]) := Lib.hid (QRow.laid1 (by rw [hx5, hg5]; exact heap_alloc_new x4 _))
  have Q5 := Lib.hid (Q2.out.below c5).all
  have O5 := Lib.hid (ORow.all (O4.out.below c5))
  have B5 := Lib.hid (B4.out.trans (c5.mono B4.out.size))
  clear c5 Q2 O4 B4
  go_wp2_with fail
  rw [← hg5, ← hx5]
  clear hg5 hx5 p0 p1 p2 p3 p4 P2
  refine (sameQ_calls 2 (.mk 5 [] [.mk 1 [] [] [] []] [] []) (.mk 5 [] [.mk 1 [] [] [] []] [] []) [.int .i64 5, .string ⟨#[]⟩, .slice aa2 1 ca2, .slice ab2 0 cb2, .slice ac2 0 cc2] [.int .i64 5, .string ⟨#[]⟩, .slice (some ⟨g5, 0, none⟩) 1 1, .slice none 0 0, .slice none 0 0] x5 (fun g => g < x5.heap.size) (by decide) (by decide) Q5.out (QyAt.of_rows R5.out ⟨[], by unfold QysAt; rfl, .inl ⟨rfl, rfl, none, 0, rfl⟩⟩ ⟨[], by unfold QysAt; rfl, .inl ⟨rfl, rfl, none, 0, rfl⟩⟩)).mono ?_
  rintro e x6 ⟨r, rfl, hr, k6⟩
  obtain rfl : r = true := hr.2 rfl
  have B6 := Lib.hid (B5.out.trans (k6.mono B5.out.size))
  have O6 := Lib.hid (ORow.all (O5.out.below k6))
  clear hr k6 Q5 R5 B5 O5
  obtain ⟨g7, hg7⟩ : ∃ g, g = x6.heap.size := ⟨_, rfl⟩
  obtain ⟨x7, hx7⟩ : ∃ x, x = x6.alloc (.cells #[.bool false, .string ⟨#[97]⟩, .string ⟨#[98]⟩, .bool true, .string ⟨#[99]⟩, .string ⟨#[]⟩] 64) := ⟨_, rfl⟩
  have c7 : Below x6.heap.size x6 x7 := by rw [hx7]; exact (Below.refl _ _).alloc (Nat.le_refl _) _
  have R7 : Hid (ORow x7 (fun g => g < x7.heap.size) (.slice (some ⟨g7, 0, none⟩) 2 2) [⟨false, [97], [98]⟩, ⟨true, [99], []⟩]) := Lib.hid (ORow.laid (by rw [hx7, hg7]; exact heap_alloc_new x6 _) (by simp [opsCells, opCells]) (by decide) rfl)
  have O7 := Lib.hid (ORow.all (O6.out.below c7))
  have B7 := Lib.hid (B6.out.trans (c7.mono B6.out.size))
  clear c7 O6 B6
  go_wp2_with fail
  rw [← hg7, ← hx7]
  clear hg7 hx7
  refine (sameOps_calls [⟨false, [97], [98]⟩, ⟨true, [99], []⟩] [⟨false, [97], [98]⟩, ⟨true, [99], []⟩] (.slice a3 2 c3) (.slice (some ⟨g7, 0, none⟩) 2 2) x7 _ _ (by decide) O7.out R7.out).mono ?_
  rintro e x8 ⟨r, rfl, hr, k8⟩
  obtain rfl : r = true := hr.2 rfl
  have B8 := Lib.hid (B7.out.trans (k8.mono B7.out.size))
  clear hr k8 O7 R7 B7
  go_wp2_with fail
  refine (shb1_calls _ (HG.out.below B8.out).1 (Nat.le_trans h8 B8.out.size)).mono ?_
  rintro e x9 ⟨rfl, k⟩
  have B9 := Lib.hid (B8.out.trans (k.mono B8.out.size))
  clear k B8
  go_wp2_with fail
  refine (shb2_calls _ (HG.out.below B9.out).1 (Nat.le_trans h8 B9.out.size)).mono ?_
  rintro e x10 ⟨rfl, k⟩
  have B10 := Lib.hid (B9.out.trans (k.mono B9.out.size))
  clear k B9
  go_wp2_with fail
  refine (shb3_calls _ (HG.out.below B10.out).1 (Nat.le_trans h8 B10.out.size)).mono ?_
  rintro e x11 ⟨rfl, k⟩
  have B11 := Lib.hid (B10.out.trans (k.mono B10.out.size))
  clear k B10
  go_wp2_with fail
  refine (shb4_calls _ (HG.out.below B11.out).1 (Nat.le_trans h8 B11.out.size)).mono ?_
  rintro e x12 ⟨rfl, k⟩
  have B12 := Lib.hid (B11.out.trans (k.mono B11.out.size))
  clear k B11
  go_wp2_with fail
  go_ret
  exact ⟨rfl, B12.out⟩
end Go.Proofs.YtejlddimokmgjaaGreatDoor
