/- WALKS: Hits: the answer to a search. -/
import Derived.Test.YtejlddimokmgjaaGreatDoorZDdo
import Derived.Test.YtejlddimokmgjaaGreatDoorGc
import Derived.Lib.ItoaMem
import Derived.Lib.AppendIntMem
import Derived.Lib.Join
import Derived.Laws.OwnMore
import Derived.Lib.SmallJoins
namespace Go.Proofs.YtejlddimokmgjaaGreatDoor
open Go.RowKit

theorem decC_eq : ∀ (u : Nat), Lib.decDigits u = Cx.dec u
  | u => by
    rw [Lib.decDigits, Cx.dec]
    by_cases h : u < 10
    · rw [dif_pos h, dif_pos h]
    · rw [dif_neg h, dif_neg h, decC_eq (u / 10)]
termination_by u => u
decreasing_by omega
abbrev Tb (w : World) : Prop := Lib.TabIs Tryz.prog w "internal/strconv.uint64pow10" .u64 Lib.pow10Tab
theorem below_gr (B : Nat) (w : World) (q : Nat) (os : Array Obj) (hB : B ≤ w.heap.size) : Below B w (Sort.grow (w.drewN q) os) :=
  ⟨rfl, rfl, rfl, by first | (simp [Sort.grow]; done) | (simp [Sort.grow]; omega), fun i hi => by
    show ((w.drewN q).heap ++ os)[i]? = _
    rw [Array.getElem?_append_left (by show i < w.heap.size; omega)]
    rfl⟩
theorem itoa_calls (n : Int) (w : World) (h0 : 0 ≤ n) (hn : n ≤ 1000000000) (ht : Tb w) :
    Calls Tryz.prog 53 #[.int .i64 n] w fun e w' => e = .returned (.string ⟨(Cx.decI n).toArray⟩) ∧ Below w.heap.size w w' := by
  obtain ⟨k, rfl⟩ : ∃ k : Nat, n = k := ⟨n.toNat, by omega⟩
  refine (Tryz.strconv_Itoa k (by omega) (by omega) w ht).mono ?_
  rintro e w' ⟨rfl, q, os, rfl⟩
  refine ⟨?_, below_gr _ _ _ _ (Nat.le_refl _)⟩
  rw [Lib.itoa_nonneg, decC_eq, show Cx.decI (k : Int) = Cx.dec k by unfold Cx.decI; rw [if_neg (by omega), show ((k : Int)).natAbs = k by omega]]

def hitCells (h : Dx.Hit) : List Value := [.string ⟨h.id.toArray⟩, .int .i64 h.score]
def hitsCells (l : List Dx.Hit) : List Value := l.flatMap hitCells
/-- A row of hits. -/
def HRow (w : World) (ok : Nat → Prop) (v : Value) (l : List Dx.Hit) : Prop := Row w ok v l.length (hitsCells l)
theorem HRow.shape {w : World} {ok : Nat → Prop} {v : Value} {l : List Dx.Hit} (h : HRow w ok v l) : ∃ a c, v = .slice a l.length c := Row.shape h
theorem hitsCells_get {o : Dx.Hit} : ∀ {l : List Dx.Hit} {i : Nat}, l[i]? = some o → (hitsCells l)[i * 2]? = some (.string ⟨o.id.toArray⟩) ∧ (hitsCells l)[i * 2 + 1]? = some (.int .i64 o.score)
  | [], _, h => by simp at h
  | a :: l, i, h => by
    cases i with
    | zero =>
      simp only [List.getElem?_cons_zero, Option.some.injEq] at h
      subst h
      exact ⟨rfl, rfl⟩
    | succ i =>
      simp only [List.getElem?_cons_succ] at h
      have := hitsCells_get h
      refine ⟨?_, ?_⟩
      · rw [show (i + 1) * 2 = (i * 2) + 2 by omega]; exact this.1
      · rw [show (i + 1) * 2 + 1 = (i * 2 + 1) + 2 by omega]; exact this.2
theorem HRow.hit {w : World} {ok : Nat → Prop} {a : Option Addr} {c : Nat} {l : List Dx.Hit} (h : HRow w ok (.slice a l.length c) l) {i : Nat} {o : Dx.Hit} (hi : l[i]? = some o) :
    ∃ g p, a = some ⟨g, p, none⟩ ∧ ok g ∧ g < w.heap.size ∧ w.cell? ⟨g, p + i * 2, none⟩ = some (.string ⟨o.id.toArray⟩) ∧ w.cell? ⟨g, p + i * 2 + 1, none⟩ = some (.int .i64 o.score) := by
  have hg := hitsCells_get hi
  obtain ⟨g, p, ha, hok, hl, c0⟩ := Row.at_ h hg.1
  obtain ⟨g', p', ha', _, _, c1⟩ := Row.at_ h hg.2
  rw [ha] at ha'
  injection ha' with ha'
  injection ha' with e1 e2
  subst e1 e2
  exact ⟨g, p, ha, hok, hl, c0, by rw [Nat.add_assoc]; exact c1⟩
theorem HRow.all {w : World} {ok : Nat → Prop} {v : Value} {l : List Dx.Hit} (h : HRow w ok v l) : HRow w (fun g => g < w.heap.size) v l :=
  Row.kept h (Nat.le_refl _) (fun _ _ hl => ⟨rfl, hl⟩)
theorem HRow.below {B : Nat} {w w' : World} {v : Value} {l : List Dx.Hit} (h : HRow w (fun g => g < B) v l) (k : Below B w w') : HRow w' (fun g => g < B) v l := Row.below h k
/-- A hit that may be told. -/
def HitOk (h : Dx.Hit) : Prop := 0 ≤ h.score ∧ h.score ≤ 1000000 ∧ h.id.length ≤ 100
theorem hitsL_len {l : List Dx.Hit} (h : ∀ x ∈ l, HitOk x) (first : Bool) : (Dx.hitsL first l).length ≤ 640 * l.length := Dx.hitsL_length l first h
theorem hitB_len {h : Dx.Hit} (hh : HitOk h) : (Dx.hitB h).length ≤ 640 := by have := Dx.hitB_length hh.1 hh.2.1; have := hh.2.2; omega

set_option maxRecDepth 100000 in
set_option maxHeartbeats 8000000 in
theorem hits_calls (total : Int) (l : List Dx.Hit) (a : Option Addr) (c : Nat) (w : World) (ok : Nat → Prop) (h0 : 0 ≤ total) (h1 : total ≤ 1000000) (hl : l.length ≤ 100) (hs : ∀ x ∈ l, HitOk x) (hrow : HRow w ok (.slice a l.length c) l) (ht : Tb w) :
    Calls Tryz.prog 22 #[.int .i64 total, .slice a l.length c] w fun e w' => e = .returned (.string ⟨(Dx.hitsB total l).toArray⟩) ∧ Below w.heap.size w w' := by
  have ROW := Lib.hid hrow.all; have HT := Lib.hid (Lib.tabBelow_of_tabIs ht); have HS := Lib.hid hs
  have HB := Lib.hid (Bld.fresh w)
  obtain ⟨W, hW⟩ : ∃ W, W = w.alloc (.cells #[.pointer none, .slice none 0 0] 93) := ⟨_, rfl⟩
  have BW := Lib.hid (show Below w.heap.size w W by rw [hW]; exact (Below.refl _ _).alloc (Nat.le_refl _) _)
  rw [← hW] at HB
  have HW := Lib.hid hW
  obtain ⟨D, hD⟩ : ∃ D : List UInt8, D = Cx.decI total := ⟨_, rfl⟩
  have hDl : D.length ≤ 16 := by rw [hD]; exact Cx.decI_length (by omega) (by omega)
  have HD := Lib.hid hD
  have hDs : (⟨D.toArray⟩ : ByteArray).size ≤ 16 := by rw [size_arr]; exact hDl
  clear hrow ht hs hW hD
  go_enter Tryz.func22, Tryz.ntmps22
  go_upto_region 2 with fail
  rw [← HW.out]
  clear HW
  go_wp2_with fail
  refine (itoa_calls total W h0 (by omega) (HT.out _ BW.out)).mono ?_
  rw [← HD.out]
  rintro e w1 ⟨rfl, hb⟩
  have B1 := Lib.hid (BW.out.trans (hb.mono BW.out.size))
  have L1 := Lib.hid (HB.out.below hb)
  clear hb HB BW
  have hc1 : ((⟨#[123, 34, 116, 111, 116, 97, 108, 34, 58]⟩ ++ ⟨D.toArray⟩) ++ ⟨#[44, 34, 104, 105, 116, 115, 34, 58, 91]⟩ : ByteArray) = ⟨(([123, 34, 116, 111, 116, 97, 108, 34, 58] ++ D) ++ [44, 34, 104, 105, 116, 115, 34, 58, 91]).toArray⟩ := by rw [← app_arr, ← app_arr]
  have HC1 := Lib.hid hc1
  obtain ⟨X, hX⟩ : ∃ X : List UInt8, X = ([123, 34, 116, 111, 116, 97, 108, 34, 58] ++ D) ++ [44, 34, 104, 105, 116, 115, 34, 58, 91] := ⟨_, rfl⟩
  have hXl : X.length ≤ 50 := by rw [hX]; simp; omega
  rw [← hX] at HC1
  have HX := Lib.hid hX
  clear hc1 hX
  go_wp2_with fail
  rw [HC1.out]
  refine (writeString_calls w.heap.size w.heap.size [] ⟨X.toArray⟩ w1 L1.out (by rw [size_arr]; simp; omega) B1.out.size).mono ?_
  rintro e w2 ⟨⟨v2, rfl⟩, k1, k2, _⟩
  rw [List.nil_append, show (⟨X.toArray⟩ : ByteArray).data.toList = X by simp] at k1
  have L2 := Lib.hid k1
  have B2 := Lib.hid (B1.out.trans k2)
  clear k1 k2 L1 B1 HC1
  go_wp2_with fail
  go_loopg [15] (l.length) (fun q z wr => ∃ (i : Nat), z = .int .i64 i ∧ q = l.length - i ∧ i ≤ l.length ∧ Hid (Bld w.heap.size w.heap.size (X ++ Dx.hitsL true (l.take i)) wr) ∧ Hid (Below w.heap.size w wr))
  case atStart => exact ⟨0, rfl, rfl, Nat.zero_le _, Lib.hid (by simpa [Dx.hitsL] using L2.out), B2⟩
  case round =>
    clear L2 B2
    obtain ⟨i, rfl, hq, hi, LI, BI⟩ := hrel
    have HQ := Lib.hid hq
    clear hq
    rcases Nat.lt_or_ge i l.length with hlt | hge
    · obtain ⟨x, hx⟩ : ∃ x, l[i]? = some x := ⟨l[i], by simp [hlt]⟩
      obtain ⟨g, o, rfl, _, hgl, d0, d1⟩ := ROW.out.hit hx
      have hxo := HS.out x (List.mem_of_getElem? hx)
      have b0 := (BI.out.cell (p := ⟨g, o + i * 2, none⟩) hgl).trans d0
      have b1 := (BI.out.cell (p := ⟨g, o + i * 2 + 1, none⟩) hgl).trans d1
      have hnext : Dx.hitsL true (l.take (i + 1)) = Dx.hitsL true (l.take i) ++ ((if i = 0 then [] else [44]) ++ Dx.hitB x) := by
        rw [List.take_add_one, hx]
        show Dx.hitsL true (l.take i ++ [x]) = _
        rw [Dx.hitsL_snoc]
        have : (true && (l.take i).isEmpty) = decide (i = 0) := by
          cases i with
          | zero => rfl
          | succ i => cases l with
            | nil => simp at hlt
            | cons a l => rfl
        rw [this]
        by_cases h : i = 0 <;> simp [h]
      have hlen := hitsL_len (l := l.take i) (fun y hy => HS.out y (List.mem_of_mem_take hy)) true
      have hlen2 : (Dx.hitsL true (l.take i)).length ≤ 64000 := by rw [List.length_take] at hlen; omega
      have hxl := hitB_len hxo
      obtain ⟨gx, hgx⟩ : ∃ gx, gx = wr.heap.size := ⟨_, rfl⟩
      obtain ⟨wx, hwx⟩ : ∃ wx, wx = wr.alloc (.cells #[.string ⟨x.id.toArray⟩, .int .i64 x.score] 44) := ⟨_, rfl⟩
      have cx : Below wr.heap.size wr wx := by rw [hwx]; exact (Below.refl _ _).alloc (Nat.le_refl _) _
      have BX := Lib.hid (show wx.heap[gx]? = some (.cells #[.string ⟨x.id.toArray⟩, .int .i64 x.score] 44 (0, 0)) by rw [hwx, hgx]; exact heap_alloc_new wr _)
      have LX := Lib.hid (LI.out.below cx)
      have BB := Lib.hid (BI.out.trans (cx.mono BI.out.size))
      have HN := Lib.hid hnext; have HX2 := Lib.hid (And.intro hgx hwx)
      have HXO := Lib.hid hxo
      have hgne : Hid (gx ≠ w.heap.size) := Lib.hid (by have := LI.out.lt; omega)
      clear hx d0 d1 cx hgx hwx LI BI hnext hlen hxo
      go_upto_region 6 with fail
      rw [← HX2.out.1, ← HX2.out.2]
      clear HX2 b0 b1
      go_upto_if 21 with fail
      go_cut [] (fun wc => Hid (Bld w.heap.size w.heap.size (X ++ Dx.hitsL true (l.take i) ++ (if i = 0 then [] else [44])) wc) ∧ Hid (Below w.heap.size w wc) ∧ Hid (wc.heap[gx]? = some (.cells #[.string ⟨x.id.toArray⟩, .int .i64 x.score] 44 (0, 0))))
      case first =>
        by_cases hz : i = 0
        · have hgt : ¬ (0 : Int) < (i : Int) := by omega
          have HZ := Lib.hid hz
          clear hz
          go_wp2_with fail
          go_meet
          case rel => exact ⟨Lib.hid (by rw [if_pos HZ.out, List.append_nil]; exact LX.out), BB, BX⟩
        · have hgt : (0 : Int) < (i : Int) := by omega
          have HZ := Lib.hid hz
          clear hz
          go_wp2_with fail
          refine (show Calls Tryz.prog 54 #[.pointer (some ⟨w.heap.size, 0, none⟩), .int .u8 44] _ _ from writeByte_calls w.heap.size w.heap.size _ 44 wx LX.out (by simp; omega) BB.out.size).mono ?_
          rintro e w5 ⟨rfl, k1, k2, k3⟩
          have L5 := Lib.hid k1; have B5 := Lib.hid (BB.out.trans k2)
          have BX5 := Lib.hid (k3 gx _ BX.out (fun e => hgne.out (by injection e)) (by intro c fz e; injection e with _ e _; exact absurd e (by decide)))
          clear k1 k2 k3
          go_wp2_with fail
          go_meet
          case rel => exact ⟨Lib.hid (by rw [if_neg HZ.out]; exact L5.out), B5, BX5⟩
      case rest =>
      obtain ⟨LC, BC, BXC⟩ := hcut
      obtain ⟨A, hA⟩ : ∃ A : List UInt8, A = X ++ Dx.hitsL true (l.take i) ++ (if i = 0 then [] else [44]) := ⟨_, rfl⟩
      have hAl : A.length ≤ 65000 := by rw [hA]; simp only [List.length_append]; split <;> simp <;> omega
      have hA2 : A ++ Dx.hitB x = X ++ Dx.hitsL true (l.take (i + 1)) := by rw [hA, HN.out]; simp
      rw [← hA] at LC
      have HA2 := Lib.hid hA2
      obtain ⟨TX, hTX⟩ : ∃ TX : ByteArray, TX = ⟨(Cx.jtext x.id).toArray⟩ := ⟨_, rfl⟩
      obtain ⟨DS, hDS⟩ : ∃ DS : ByteArray, DS = ⟨(Cx.decI x.score).toArray⟩ := ⟨_, rfl⟩
      have hz1 : TX.size ≤ 1000 := by rw [hTX, size_arr]; have := Cx.jtext_length x.id; have := HXO.out.2.2; omega
      have hz2 : DS.size ≤ 16 := by rw [hDS, size_arr]; exact Cx.decI_length (by have := HXO.out.1; omega) (by have := HXO.out.2.1; omega)
      have n1 : ¬ 9223372036854775807 < 6 + TX.size := by omega
      have n2 : ¬ 9223372036854775807 < 6 + TX.size + 9 := by omega
      have n3 : ¬ 9223372036854775807 < 6 + TX.size + 9 + DS.size := by omega
      have n4 : ¬ 9223372036854775807 < 6 + TX.size + 9 + DS.size + 1 := by omega
      have JT := Lib.hid (show ∀ wq, Below wc.heap.size wc wq → Calls Tryz.prog 50 #[.string ⟨x.id.toArray⟩] wq fun e w' => e = .returned (.string TX) ∧ Below wc.heap.size wc w' from fun wq hq => by
        rw [hTX]
        exact (jtext_callsL x.id wq (by have := HXO.out.2.2; omega)).mono fun e w' h => ⟨h.1, hq.trans (h.2.mono hq.size)⟩)
      have IT := Lib.hid (show ∀ wq, Below wc.heap.size wc wq → Calls Tryz.prog 53 #[.int .i64 x.score] wq fun e w' => e = .returned (.string DS) ∧ Below wc.heap.size wc w' from fun wq hq => by
        rw [hDS]
        exact (itoa_calls x.score wq HXO.out.1 (by have := HXO.out.2.1; omega) (HT.out _ (BC.out.trans (hq.mono BC.out.size)))).mono fun e w' h => ⟨h.1, hq.trans (h.2.mono hq.size)⟩)
      have CW := Lib.hid (show ∀ wq, Below wc.heap.size wc wq → Calls Tryz.prog 52 #[.pointer (some ⟨w.heap.size, 0, none⟩), .string ((((⟨#[123, 34, 105, 100, 34, 58]⟩ ++ TX) ++ ⟨#[44, 34, 115, 99, 111, 114, 101, 34, 58]⟩) ++ DS) ++ ⟨#[125]⟩ : ByteArray)] wq fun e w' => (∃ v, e = .returned (.tuple #[v, .nilIface])) ∧ Hid (Bld w.heap.size w.heap.size (A ++ Dx.hitB x) w') ∧ Hid (Below w.heap.size w w') ∧ (w'.cell? ⟨gx, 0, none⟩ = some (.string ⟨x.id.toArray⟩) ∧ w'.cell? ⟨gx, 1, none⟩ = some (.int .i64 x.score)) from fun wq hq => by
        have e : ((((⟨#[123, 34, 105, 100, 34, 58]⟩ ++ TX) ++ ⟨#[44, 34, 115, 99, 111, 114, 101, 34, 58]⟩) ++ DS) ++ ⟨#[125]⟩ : ByteArray) = ⟨(Dx.hitB x).toArray⟩ := by
          rw [hTX, hDS]; simp [Dx.hitB, ByteArray.ext_iff, ByteArray.data_append]
        rw [e]
        have hB := BC.out.trans (hq.mono BC.out.size)
        refine (writeString_calls w.heap.size w.heap.size A ⟨(Dx.hitB x).toArray⟩ wq (LC.out.below hq) (by rw [size_arr]; omega) hB.size).mono ?_
        rintro e w' ⟨h1, h2, h3, h4⟩
        have hb := h4 gx _ ((hq.block gx (heap_lt BXC.out)).trans BXC.out) (fun e => hgne.out (by injection e)) (by intro c fz e; injection e with _ e _; exact absurd e (by decide))
        exact ⟨h1, Lib.hid (by simpa using h2), Lib.hid (hB.trans h3), by simp [World.cell?, hb], by simp [World.cell?, hb]⟩)
      have KEEP := Lib.hid (show ∀ wq, Below wc.heap.size wc wq → wq.cell? ⟨gx, 0, none⟩ = some (.string ⟨x.id.toArray⟩) ∧ wq.cell? ⟨gx, 1, none⟩ = some (.int .i64 x.score) from fun wq hq => by
        have hb := (hq.block gx (heap_lt BXC.out)).trans BXC.out
        exact ⟨by simp [World.cell?, hb], by simp [World.cell?, hb]⟩)
      obtain ⟨q0, q1⟩ := KEEP.out _ (Below.refl wc.heap.size wc)
      have TW := (Below.refl wc.heap.size wc).drew
      clear hA hA2 hTX hDS LC LX BB BX BXC HN
      go_wp2_with fail
      go_region_held3 (fun w' => w'.cell? ⟨gx, 0, none⟩ = some (.string ⟨x.id.toArray⟩) ∧ w'.cell? ⟨gx, 1, none⟩ = some (.int .i64 x.score)) (first | assumption | exact KEEP.out _ ‹Below wc.heap.size wc _›)
        (first
          | (go_at_call 50; refine (JT.out _ ‹Below wc.heap.size wc _›).mono ?_; rintro e w9 ⟨rfl, hb9⟩)
          | (go_at_call 53; refine (IT.out _ ‹Below wc.heap.size wc _›).mono ?_; rintro e w9 ⟨rfl, hb9⟩)
          | (go_at_call 52; refine (CW.out _ ‹Below wc.heap.size wc _›).mono ?_; rintro e w9 ⟨⟨v9, rfl⟩, L9, B9, hk9⟩))
      all_goals
        try go_wp2_with fail
        go_roundg (l.length - (i + 1))
        case measure => have := HQ.out; omega
        case rel => exact ⟨i + 1, by go_num, rfl, by omega, Lib.hid (by rw [← HA2.out]; exact L9.out), B9⟩
    · have hik : i = l.length := by omega
      subst hik
      rw [List.take_length] at LI
      have hlen := hitsL_len HS.out true
      have hlen2 : (Dx.hitsL true l).length ≤ 64000 := by omega
      clear HQ
      go_wp2_with fail
      refine (show Calls Tryz.prog 52 #[.pointer (some ⟨w.heap.size, 0, none⟩), .string ⟨#[93, 125]⟩] _ _ from writeString_calls w.heap.size w.heap.size _ ⟨#[93, 125]⟩ wr LI.out (by rw [show (⟨#[93, 125]⟩ : ByteArray).size = 2 from rfl]; simp; omega) BI.out.size).mono ?_
      rintro e w5 ⟨⟨v5, rfl⟩, k1, k2, _⟩
      have L5 := Lib.hid k1; have B5 := Lib.hid (BI.out.trans k2)
      clear k1 k2
      go_wp2_with fail
      refine (string_calls w.heap.size w.heap.size _ _ L5.out B5.out.size).mono ?_
      rintro e w6 ⟨rfl, _, k2, _⟩
      have B6 := Lib.hid (B5.out.trans k2)
      have hfin : (X ++ Dx.hitsL true l ++ (⟨#[93, 125]⟩ : ByteArray).data.toList) = Dx.hitsB total l := by
        rw [HX.out, HD.out]; simp [Dx.hitsB]
      rw [hfin]
      clear k2 hfin
      go_wp2_with fail
      go_ret
      exact ⟨rfl, B6.out⟩
end Go.Proofs.YtejlddimokmgjaaGreatDoor
