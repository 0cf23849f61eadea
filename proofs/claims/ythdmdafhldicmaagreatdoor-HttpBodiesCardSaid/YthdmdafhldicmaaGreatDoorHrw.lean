/- WALKS: the law HttpRows. -/
import Derived.Test.YthdmdafhldicmaaGreatDoorHsh
import Derived.Test.YthdmdafhldicmaaGreatDoorHn
import Derived.Test.YthdmdafhldicmaaGreatDoorHxRq
namespace Go.Proofs.YthdmdafhldicmaaGreatDoor
open Go.RowKit Go.Maps Go.WideMaps

/-- Texts that came in as a slice. -/
def SRow (w : World) (a : Option Addr) (l : List Hx.Bytes) : Prop := ∀ j x, l[j]? = some x → ∃ b o, a = some ⟨b, o, none⟩ ∧ b < w.heap.size ∧ w.cell? ⟨b, o + j, none⟩ = some (.string ⟨x.toArray⟩)

theorem row_text (i : Nat) (b : Hx.Bytes) (T D1 D2 : ByteArray) (X : Hx.Bytes) (hT : T = ⟨X.toArray⟩) (h1 : D1 = ⟨(Hx.dec i).toArray⟩) (h2 : D2 = ⟨(Hx.dec b.length).toArray⟩) :
    (T ++ ⟨#[80, 79, 83, 84, 32, 47]⟩ ++ D1 ++ ⟨#[32, 72, 84, 84, 80, 47, 49, 46, 49, 13, 10, 72, 111, 115, 116, 58, 32, 104, 13, 10, 67, 111, 110, 116, 101, 110, 116, 45, 76, 101, 110, 103, 116, 104, 58, 32]⟩ ++ D2 ++ ⟨#[13, 10, 13, 10]⟩ ++ ⟨b.toArray⟩ : ByteArray) = ⟨(X ++ Hx.row i b).toArray⟩ := by
  rw [hT, h1, h2]
  simp [Hx.row, Hx.rowHead, Hx.rowF, Hx.rows, Hx.fl, Hx.lf, Hx.tPost, Hx.tVersion, ByteArray.ext_iff, ByteArray.data_append]

set_option maxRecDepth 100000 in
set_option maxHeartbeats 4000000 in
theorem rows_out (l : List Hx.Bytes) (a : Option Addr) (c : Nat) (w : World) (hg : Glb w) (ht : Tb w) (h8 : 8 ≤ w.heap.size) (ho : 20 < l.length) :
    Calls Tryz.prog 5 #[.slice a l.length c] w (LawPost w) := by
  have hc : (20 : Int) < l.length := by omega
  have HG := Lib.hid hg; have HT := Lib.hid ht
  clear ho hg ht
  go_enter Tryz.func5, Tryz.ntmps5
  go_wp2_with fail
  refine (shown_calls _ HG.out HT.out h8).mono ?_
  rintro e w2 ⟨rfl, k⟩
  have B2 := Lib.hid k
  clear k
  go_wp2_with fail
  go_ret
  exact ⟨rfl, B2.out⟩

set_option maxRecDepth 100000 in
set_option maxHeartbeats 8000000 in
theorem rows_main (l : List Hx.Bytes) (a : Option Addr) (cp : Nat) (w : World) (hl : SRow w a l) (hg : Glb w) (ht : Tb w) (h8 : 8 ≤ w.heap.size) (hn : l.length ≤ 20) :
    Calls Tryz.prog 5 #[.slice a l.length cp] w (LawPost w) := by
  have h1 : ¬ (20 : Int) < l.length := by omega
  obtain ⟨DD, hDD⟩ : ∃ DD : Nat → ByteArray, ∀ n, DD n = ⟨(Hx.dec n).toArray⟩ := ⟨_, fun _ => rfl⟩
  have CD : Hid (∀ (n : Nat) wq, n ≤ 1000000 → Calls Tryz.prog 15 #[.int .i64 n] wq fun e w' => e = .returned (.string (DD n)) ∧ w' = wq) := Lib.hid fun n wq hn => by rw [hDD]; exact digits_calls n wq (by omega)
  have hds : ∀ n, n ≤ 1000000 → (DD n).size ≤ 10 := fun n hn => by rw [hDD, size_list]; exact Hx.dec_len 9 _ (by omega)
  have HDS := Lib.hid hds; have HDD := Lib.hid hDD
  have HG := Lib.hid hg; have HT := Lib.hid ht; have HL := Lib.hid hl
  clear hg ht hl hds hDD
  go_enter Tryz.func5, Tryz.ntmps5
  go_wp2_with fail
  refine (shown_calls _ HG.out HT.out h8).mono ?_
  rintro E w2 ⟨rfl, k⟩
  have B2 := Lib.hid k
  clear k HT
  go_wp2_with fail
  go_loopg [4, 5] (l.length + 1) (fun q z i wr => ∃ (k : Nat) (T : ByteArray), z = .string T ∧ i = .int .i64 k ∧ k ≤ l.length ∧ l.length < k + q ∧ T.size ≤ 1100 * k ∧ Hid (∀ b ∈ l.take k, b.length ≤ 1000) ∧ Hid (T = ⟨(Hx.rowsFrom 0 (l.take k)).toArray⟩) ∧ Hid (Below w.heap.size w wr))
  case atStart => exact ⟨0, ⟨#[]⟩, rfl, rfl, Nat.zero_le _, by omega, by decide, Lib.hid (by simp), Lib.hid rfl, B2⟩
  case round =>
    clear B2
    obtain ⟨k, T, rfl, rfl, hk, hq, hT, HA, HTT, HB⟩ := hrel
    obtain ⟨q, rfl⟩ : ∃ q, gk = q + 1 := ⟨gk - 1, by omega⟩
    by_cases hlt : k < l.length
    · obtain ⟨b, hb⟩ : ∃ b, l[k]? = some b := ⟨l[k], by simp [hlt]⟩
      obtain ⟨g, o, rfl, hgl, hcell⟩ := HL.out k b hb
      have hc2 : wr.cell? ⟨g, o + k, none⟩ = some (.string ⟨b.toArray⟩) := (HB.out.cell (p := ⟨g, o + k, none⟩) hgl).trans hcell
      have hltI : (k : Int) < (l.length : Int) := by omega
      have hbz := size_list b
      clear hcell
      by_cases hbig : 1000 < b.length
      · have hbI : (1000 : Int) < b.length := by omega
        clear hbig
        go_wp2_with fail
        go_ret
        exact ⟨rfl, HB.out⟩
      have hbI : ¬ (1000 : Int) < b.length := by omega
      have htk : l.take (k + 1) = l.take k ++ [b] := by rw [List.take_add_one, hb]; rfl
      have d1 := HDS.out k (by omega); have d2 := HDS.out b.length (by omega)
      have hrl := Hx.row_len k b (by omega) (by omega)
      have hX := row_text k b T (DD k) (DD b.length) (Hx.rowsFrom 0 (l.take k)) HTT.out (HDD.out k) (HDD.out b.length)
      have hX2 : Hx.rowsFrom 0 (l.take k) ++ Hx.row k b = Hx.rowsFrom 0 (l.take (k + 1)) := by
        rw [htk, Hx.rowsFrom_snoc, List.length_take, Nat.min_eq_left (by omega), Nat.zero_add]
      rw [hX2] at hX
      have hlast : ∀ x ∈ l.take (k + 1), x.length ≤ 1000 := by
        intro x hx
        rw [htk, List.mem_append, List.mem_singleton] at hx
        rcases hx with hx | rfl
        · exact HA.out x hx
        · omega
      have hsz2 : (⟨(Hx.rowsFrom 0 (l.take (k + 1))).toArray⟩ : ByteArray).size ≤ 1100 * (k + 1) := by
        rw [size_list]
        refine Nat.le_trans (Hx.rowsFrom_len _ 0 hlast (by rw [List.length_take]; omega)) ?_
        rw [List.length_take]; omega
      have m1 : ¬ 9223372036854775807 < T.size + 6 := by omega
      have m2 : ¬ 9223372036854775807 < T.size + 6 + (DD k).size := by omega
      have m3 : ¬ 9223372036854775807 < T.size + 6 + (DD k).size + 36 := by omega
      have m4 : ¬ 9223372036854775807 < T.size + 6 + (DD k).size + 36 + (DD b.length).size := by omega
      have m5 : ¬ 9223372036854775807 < T.size + 6 + (DD k).size + 36 + (DD b.length).size + 4 := by omega
      have m6 : ¬ 9223372036854775807 < T.size + 6 + (DD k).size + 36 + (DD b.length).size + 4 + b.length := by omega
      have HX := Lib.hid hX; have HLA := Lib.hid hlast; have HS2 := Lib.hid hsz2
      have hkn : k ≤ 1000000 := by omega
      have hbn : b.length ≤ 1000000 := by omega
      clear htk hX hX2 hlast hsz2 hbig hb hrl HA HTT
      go_wp2_with fail
      go_quiet ((go_at_call 15; exact Calls.quiet_of_same (CD.out _ _ (by omega))))
      clear m1 m2 m3 m4 m5 m6 hc2 hbI
      go_wp2_with fail
      go_roundg q
      case measure => omega
      case rel =>
        exact ⟨k + 1, _, rfl, by go_num, by omega, by omega, by rw [HX.out]; exact HS2.out, HLA, Lib.hid HX.out, Lib.hid (below_dN HB.out nq)⟩
    · have hkk : k = l.length := by omega
      have hall : ∀ b ∈ l, b.length ≤ 1000 := by have := HA.out; rw [hkk, List.take_length] at this; exact this
      have hTe : T = ⟨(Hx.rowsFrom 0 l).toArray⟩ := by rw [HTT.out, hkk, List.take_length]
      have hltI : ¬ (k : Int) < (l.length : Int) := by omega
      have m1 : ¬ 9223372036854775807 < T.size + 4 := by omega
      have hT0 : (T ++ ⟨#[71, 69, 84, 32]⟩ : ByteArray) = ⟨(Hx.rowsFrom 0 (l.drop 0) ++ [71, 69, 84, 32]).toArray⟩ := by
        rw [hTe]; simp [ByteArray.ext_iff, ByteArray.data_append]
      have hsz0 : (T ++ ⟨#[71, 69, 84, 32]⟩ : ByteArray).size ≤ 23000 := by
        rw [hT0, size_list, List.drop_zero, List.length_append]
        have := Hx.rowsFrom_len l 0 hall (by omega)
        simp only [List.length_cons, List.length_nil]; omega
      have HT0 := Lib.hid hT0; have HS0 := Lib.hid hsz0; have HALL := Lib.hid hall
      clear hT0 hsz0 hall hTe hkk HA HTT hlt hq hT
      go_wp2_with fail
      go_loopg [6, 7] (l.length + 1) (fun q z i wr => ∃ (k : Nat) (T : ByteArray), z = .string T ∧ i = .int .i64 k ∧ k ≤ l.length ∧ l.length < k + q ∧ T.size ≤ 23000 ∧ Hid (T = ⟨(Hx.rowsFrom k (l.drop k) ++ [71, 69, 84, 32]).toArray⟩) ∧ Hid (Below w.heap.size w wr))
      case atStart => exact ⟨0, _, rfl, rfl, Nat.zero_le _, by omega, HS0.out, HT0, HB⟩
      case round =>
        clear HB HT0 HS0 m1 hltI hk
        obtain ⟨k, T, rfl, rfl, hk, hq, hT, HTT, HB⟩ := hrel
        obtain ⟨q, rfl⟩ : ∃ q, gk = q + 1 := ⟨gk - 1, by omega⟩
        by_cases hlt : k < l.length
        · obtain ⟨b, hb⟩ : ∃ b, l[k]? = some b := ⟨l[k], by simp [hlt]⟩
          obtain ⟨g, o, rfl, hgl, hcell⟩ := HL.out k b hb
          have hltI : (k : Int) < (l.length : Int) := by omega
          have hbz := size_list b
          have hb1 : b.length ≤ 1000 := HALL.out b (List.mem_of_getElem? hb)
          have hdr : l.drop k = b :: l.drop (k + 1) := by
            obtain ⟨hlt, he⟩ := List.getElem?_eq_some_iff.1 hb
            rw [List.drop_eq_getElem_cons hlt, he]
          obtain ⟨t, htt⟩ : ∃ t, t = Hx.rowsFrom (k + 1) (l.drop (k + 1)) ++ [71, 69, 84, 32] := ⟨_, rfl⟩
          have hTl : T.data.toList = Hx.row k b ++ t := by
            rw [HTT.out, hdr, htt]; simp [Hx.rowsFrom]
          obtain ⟨N, hN⟩ : ∃ N, N = (Hx.row k b).length := ⟨_, rfl⟩
          obtain ⟨P, hP⟩ : ∃ P : ByteArray, P = ⟨(47 :: Hx.dec k).toArray⟩ := ⟨_, rfl⟩
          have hTs : T.size = N + t.length := by
            have h := congrArg List.length hTl
            rw [List.length_append, ← hN] at h
            exact h
          have hrd := Hx.read_row k b t (by omega) (by omega)
          rw [← hN] at hrd
          have RD : Hid (∀ wq, Glb wq → 8 ≤ wq.heap.size → Calls Tryz.prog 11 #[.string T] wq fun E w' => E = .returned (.tuple #[.agg #[.string ⟨#[80, 79, 83, 84]⟩, .string P, .string ⟨b.toArray⟩, .bool false], .int .i64 N, .int .i64 200]) ∧ Below wq.heap.size wq w') := Lib.hid fun wq hq h8 => by
            rw [hP]
            exact readN (Hx.row k b ++ t) T wq hTl (by rw [← hTl]; show T.size ≤ 90000; omega) hq h8 Hx.tPost (47 :: Hx.dec k) b false N 200 hrd
          have hP2 : (⟨#[47]⟩ ++ DD k : ByteArray) = P := by
            rw [hP, HDD.out, show (⟨#[47]⟩ : ByteArray) = ⟨([47] : List UInt8).toArray⟩ from rfl, app_bytes2]; rfl
          have hx : T.extract N T.size = ⟨t.toArray⟩ := by
            rw [extract_list, hTl, hN, List.drop_left, List.take_of_length_le]
            have : T.size - (Hx.row k b).length = t.length := by rw [← hN]; omega
            rw [this]; exact Nat.le_refl _
          have d1 := HDS.out k (by omega)
          have hgtI : ¬ (T.size : Int) < (N : Int) := by omega
          have hNT : N ≤ T.size := by omega
          have m1 : ¬ 9223372036854775807 < 1 + (DD k).size := by omega
          have hts : t.length ≤ 23000 := by omega
          have HX := Lib.hid hx; have HP2 := Lib.hid hP2; have HTX := Lib.hid htt; have HC := Lib.hid hcell; have HTS2 := Lib.hid hts
          have hkn : k ≤ 1000000 := by omega
          clear hdr htt hTl hN hP hTs hrd hP2 hx hb hcell hts HTT
          go_wp2_with fail
          refine (RD.out _ (HG.out.below HB.out) (Nat.le_trans h8 HB.out.size)).mono ?_
          rintro E w3 ⟨rfl, k3⟩
          obtain ⟨a3, ha3⟩ : ∃ a3, a3 = w3.alloc (.cells #[.string ⟨#[80, 79, 83, 84]⟩, .string P, .string ⟨b.toArray⟩, .bool false] 24) := ⟨_, rfl⟩
          obtain ⟨g3, hg3⟩ : ∃ g, g = (w3 : World).heap.size := ⟨_, rfl⟩
          have B3 : Hid (Below w.heap.size w a3) := Lib.hid (by rw [ha3]; have b := HB.out.trans (k3.mono HB.out.size); exact b.alloc b.size _)
          have hq3 : a3.heap[g3]? = some (.cells #[.string ⟨#[80, 79, 83, 84]⟩, .string P, .string ⟨b.toArray⟩, .bool false] 24 (0, 0)) := by rw [ha3, hg3]; exact heap_alloc_new w3 _
          have HQ3 := Lib.hid hq3
          clear k3 HB RD hq3
          go_upto_region 16 with fail
          rw [← hg3, ← ha3]
          clear hg3 ha3
          obtain ⟨q0, q1, q2, q3, _⟩ := cells4 HQ3.out
          have hc2 : a3.cell? ⟨g, o + k, none⟩ = some (.string ⟨b.toArray⟩) := (B3.out.cell (p := ⟨g, o + k, none⟩) hgl).trans HC.out
          have hP2 := HP2.out
          go_wp2_with fail
          go_quiet ((go_at_call 15; exact Calls.quiet_of_same (CD.out _ _ (by omega))))
          clear q0 q1 q2 q3 hc2 hP2 m1
          go_wp2_with fail
          go_roundg q
          case measure => omega
          case rel =>
            exact ⟨k + 1, _, rfl, by go_num, by omega, by omega, by rw [HX.out, size_list]; exact HTS2.out, Lib.hid (by rw [HX.out, HTX.out]), Lib.hid (below_dN B3.out nq)⟩
        · have hkk : k = l.length := by omega
          have hTe : T = ⟨#[71, 69, 84, 32]⟩ := by rw [HTT.out, hkk, List.drop_length]; rfl
          have hltI : ¬ (k : Int) < (l.length : Int) := by omega
          subst hTe
          clear hkk HTT hlt
          go_wp2_with fail
          refine (readN [71, 69, 84, 32] _ _ rfl (by decide) (HG.out.below HB.out) (Nat.le_trans h8 HB.out.size) [] [] [] false 0 0 Hx.read_get).mono ?_
          rintro E w3 ⟨rfl, k3⟩
          have B3 := Lib.hid (HB.out.trans (k3.mono HB.out.size))
          clear k3 HB
          go_wp2_with fail
          go_ret
          exact ⟨rfl, B3.out.alloc B3.out.size _⟩

theorem rows_calls (l : List Hx.Bytes) (a : Option Addr) (cp : Nat) (w : World) (hl : SRow w a l) (hg : Glb w) (ht : Tb w) (h8 : 8 ≤ w.heap.size) :
    Calls Tryz.prog 5 #[.slice a l.length cp] w (LawPost w) := by
  by_cases ho : 20 < l.length
  · exact rows_out l a cp w hg ht h8 ho
  · exact rows_main l a cp w hl hg ht h8 (by omega)
end Go.Proofs.YthdmdafhldicmaaGreatDoor
