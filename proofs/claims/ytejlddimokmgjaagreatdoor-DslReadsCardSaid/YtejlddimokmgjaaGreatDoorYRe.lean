/- WALKS: runes, as the document's answer finds them. -/
import Derived.Test.YtejlddimokmgjaaGreatDoorYRa
import Derived.Test.YtejlddimokmgjaaGreatDoorKb
import Derived.Deep.RegionHeld3
namespace Go.Proofs.YtejlddimokmgjaaGreatDoor
open Go.RowKit

theorem is10_calls (v : Int) (w : World) : Calls Tryz.prog 110 #[.int .i64 v] w fun e w' => e = .returned (.bool (Cx.isRune v)) ∧ w' = w := by
  unfold Cx.isRune
  by_cases h0 : 0 ≤ v
  · rw [decide_eq_true h0]
    by_cases h1 : v ≤ 1114111
    · rw [decide_eq_true h1]
      by_cases h2 : v < 55296
      · rw [decide_eq_true h2]
        go_enter Tryz.func110, Tryz.ntmps110
        go_wp2
        go_ret
        exact ⟨rfl, rfl⟩
      · rw [decide_eq_false h2]
        by_cases h3 : 57343 < v
        · rw [decide_eq_true h3]
          go_enter Tryz.func110, Tryz.ntmps110
          go_wp2
          go_ret
          exact ⟨rfl, rfl⟩
        · rw [decide_eq_false h3]
          go_enter Tryz.func110, Tryz.ntmps110
          go_wp2
          go_ret
          exact ⟨rfl, rfl⟩
    · rw [decide_eq_false h1]
      go_enter Tryz.func110, Tryz.ntmps110
      go_wp2
      go_ret
      exact ⟨rfl, rfl⟩
  · rw [decide_eq_false h0]
    go_enter Tryz.func110, Tryz.ntmps110
    go_wp2
    go_ret
    exact ⟨rfl, rfl⟩

theorem conv_bytes (w : World) (xs : List Int) (h : ∀ a ∈ xs, 0 ≤ a ∧ a < 256) :
    (convert 91 9 (.slice (some ⟨w.heap.size, 0, none⟩) xs.length xs.length)).run Tryz.prog (w.alloc (.cells (xs.map (Value.int .u8)).toArray 5)) = .ok (.string ⟨(xs.map fun a => UInt8.ofNat a.toNat).toArray⟩) (w.alloc (.cells (xs.map (Value.int .u8)).toArray 5)) := by
  have hl : (xs.map fun a => UInt8.ofNat a.toNat).length = xs.length := by simp
  have := run_convert_bytes_back (P := Tryz.prog) (w.alloc (.cells (xs.map (Value.int .u8)).toArray 5)) 91 9 5 ⟨w.heap.size, 0, none⟩ xs.length (xs.map fun a => UInt8.ofNat a.toNat) Tryz.underlying91 Tryz.underlying5 Tryz.underlying9 (fun j hj => by
    have hj' : j < xs.length := by simpa using hj
    have hb := h xs[j] (List.getElem_mem hj')
    have hx := heap_alloc_new w (.cells (xs.map (Value.int .u8)).toArray 5)
    have e : ((UInt8.ofNat xs[j].toNat).toNat : Int) = xs[j] := by rw [UInt8.toNat_ofNat']; omega
    simp only [List.getElem_map, e]
    have ea : (⟨w.heap.size, 0, none⟩ : Addr).add j = ⟨w.heap.size, j, none⟩ := by unfold Addr.add; by_cases h0 : j = 0 <;> simp [h0]
    rw [ea]
    simp only [World.cell?, hx]
    simp [hj'])
  rw [hl] at this
  exact this

set_option maxRecDepth 100000 in
set_option maxHeartbeats 1000000 in
theorem bytes10_calls (v : Nat) (hv : v ≤ 1114111) (w : World) : Calls Tryz.prog 111 #[.int .i64 v] w fun e w' => e = .returned (.string ⟨(Cx.enc v).toArray⟩) ∧ Below w.heap.size w w' := by
  by_cases h1 : v < 128
  · have he : Cx.enc v = [UInt8.ofNat (v)] := by unfold Cx.enc; rw [if_pos h1]
    rw [he]
    have i1 : (v : Int) < 128 := by omega
    have hc : (convert 91 9 (.slice (some ⟨w.heap.size, 0, none⟩) 1 1)).run Tryz.prog (w.alloc (.cells #[.int .u8 ((v : Int))] 5)) = .ok (.string ⟨#[UInt8.ofNat ((v : Int) : Int).toNat]⟩) (w.alloc (.cells #[.int .u8 ((v : Int))] 5)) := conv_bytes w [(v : Int)] (by simp; omega)
    clear he
    go_enter Tryz.func111, Tryz.ntmps111
    go_wp2
    go_ret
    exact ⟨ret_str rfl, (Below.refl _ w).alloc (Nat.le_refl _) _⟩
  have i1 : ¬ (v : Int) < 128 := by omega
  have d64 : (v : Int).tdiv 64 = (v : Int) / 64 := Int.tdiv_eq_ediv_of_nonneg (by omega)
  have m64 : (v : Int).tmod 64 = (v : Int) % 64 := Int.tmod_eq_emod_of_nonneg (by omega)
  by_cases h2 : v < 2048
  · have he : Cx.enc v = [UInt8.ofNat (192 + v / 64), UInt8.ofNat (128 + v % 64)] := by unfold Cx.enc; rw [if_neg h1, if_pos h2]
    rw [he]
    have i2 : (v : Int) < 2048 := by omega
    have hc : (convert 91 9 (.slice (some ⟨w.heap.size, 0, none⟩) 2 2)).run Tryz.prog (w.alloc (.cells #[.int .u8 (192 + (v : Int) / 64), .int .u8 (128 + (v : Int) % 64)] 5)) = .ok (.string ⟨#[UInt8.ofNat (192 + (v : Int) / 64 : Int).toNat, UInt8.ofNat (128 + (v : Int) % 64 : Int).toNat]⟩) (w.alloc (.cells #[.int .u8 (192 + (v : Int) / 64), .int .u8 (128 + (v : Int) % 64)] 5)) := conv_bytes w [192 + (v : Int) / 64, 128 + (v : Int) % 64] (by simp; omega)
    clear he
    go_enter Tryz.func111, Tryz.ntmps111
    go_wp2
    go_ret
    exact ⟨ret_str rfl, (Below.refl _ w).alloc (Nat.le_refl _) _⟩
  have i2 : ¬ (v : Int) < 2048 := by omega
  have d4096 : (v : Int).tdiv 4096 = (v : Int) / 4096 := Int.tdiv_eq_ediv_of_nonneg (by omega)
  have m2 : ((v : Int) / 64).tmod 64 = (v : Int) / 64 % 64 := Int.tmod_eq_emod_of_nonneg (by omega)
  by_cases h3 : v < 65536
  · have he : Cx.enc v = [UInt8.ofNat (224 + v / 4096), UInt8.ofNat (128 + v / 64 % 64), UInt8.ofNat (128 + v % 64)] := by unfold Cx.enc; rw [if_neg h1, if_neg h2, if_pos h3]
    rw [he]
    have i3 : (v : Int) < 65536 := by omega
    have hc : (convert 91 9 (.slice (some ⟨w.heap.size, 0, none⟩) 3 3)).run Tryz.prog (w.alloc (.cells #[.int .u8 (224 + (v : Int) / 4096), .int .u8 (128 + (v : Int) / 64 % 64), .int .u8 (128 + (v : Int) % 64)] 5)) = .ok (.string ⟨#[UInt8.ofNat (224 + (v : Int) / 4096 : Int).toNat, UInt8.ofNat (128 + (v : Int) / 64 % 64 : Int).toNat, UInt8.ofNat (128 + (v : Int) % 64 : Int).toNat]⟩) (w.alloc (.cells #[.int .u8 (224 + (v : Int) / 4096), .int .u8 (128 + (v : Int) / 64 % 64), .int .u8 (128 + (v : Int) % 64)] 5)) := conv_bytes w [224 + (v : Int) / 4096, 128 + (v : Int) / 64 % 64, 128 + (v : Int) % 64] (by simp; omega)
    clear he
    go_enter Tryz.func111, Tryz.ntmps111
    go_wp2
    go_ret
    exact ⟨ret_str rfl, (Below.refl _ w).alloc (Nat.le_refl _) _⟩
  have i3 : ¬ (v : Int) < 65536 := by omega
  have d26 : (v : Int).tdiv 262144 = (v : Int) / 262144 := Int.tdiv_eq_ediv_of_nonneg (by omega)
  have m3 : ((v : Int) / 4096).tmod 64 = (v : Int) / 4096 % 64 := Int.tmod_eq_emod_of_nonneg (by omega)
  have he : Cx.enc v = [UInt8.ofNat (240 + v / 262144), UInt8.ofNat (128 + v / 4096 % 64), UInt8.ofNat (128 + v / 64 % 64), UInt8.ofNat (128 + v % 64)] := by unfold Cx.enc; rw [if_neg h1, if_neg h2, if_neg h3]
  rw [he]
  skip
  have hc : (convert 91 9 (.slice (some ⟨w.heap.size, 0, none⟩) 4 4)).run Tryz.prog (w.alloc (.cells #[.int .u8 (240 + (v : Int) / 262144), .int .u8 (128 + (v : Int) / 4096 % 64), .int .u8 (128 + (v : Int) / 64 % 64), .int .u8 (128 + (v : Int) % 64)] 5)) = .ok (.string ⟨#[UInt8.ofNat (240 + (v : Int) / 262144 : Int).toNat, UInt8.ofNat (128 + (v : Int) / 4096 % 64 : Int).toNat, UInt8.ofNat (128 + (v : Int) / 64 % 64 : Int).toNat, UInt8.ofNat (128 + (v : Int) % 64 : Int).toNat]⟩) (w.alloc (.cells #[.int .u8 (240 + (v : Int) / 262144), .int .u8 (128 + (v : Int) / 4096 % 64), .int .u8 (128 + (v : Int) / 64 % 64), .int .u8 (128 + (v : Int) % 64)] 5)) := conv_bytes w [240 + (v : Int) / 262144, 128 + (v : Int) / 4096 % 64, 128 + (v : Int) / 64 % 64, 128 + (v : Int) % 64] (by simp; omega)
  clear he
  go_enter Tryz.func111, Tryz.ntmps111
  go_wp2
  go_ret
  exact ⟨ret_str rfl, (Below.refl _ w).alloc (Nat.le_refl _) _⟩


/-- What 'Rune' hands back. -/
def RunePost (l : List UInt8) (w : World) (e : Ending) (w' : World) : Prop :=
  Below w.heap.size w w' ∧ (Cx.runeLen l ≠ 0 → ∃ v : Int, 0 ≤ v ∧ e = .returned (.tuple #[.int .i64 v, .int .i64 (Cx.runeLen l)])) ∧ (Cx.runeLen l = 0 → e = .returned (.tuple #[.int .i64 (-1), .int .i64 (if l = [] then 0 else 1)]))

theorem below_dN2 {B : Nat} {w w' : World} (h : Below B w w') (n : Nat) : Below B w (w'.drewN n) := ⟨h.os, h.tape, h.output, h.size, h.block⟩
theorem runeV_bound (l : List UInt8) : ∀ v : Int, -300 ≤ v → v ≤ 300 → l.length ≤ 3 → -100000000 ≤ l.foldl Cx.rstep v ∧ l.foldl Cx.rstep v ≤ 100000000 := by
  intro v h1 h2 h3
  match l, h3 with
  | [], _ => simp only [List.foldl]; omega
  | [a], _ => have := a.toNat_lt; simp only [List.foldl, Cx.rstep]; omega
  | [a, b], _ => have := a.toNat_lt; have := b.toNat_lt; simp only [List.foldl, Cx.rstep]; omega
  | [a, b, c], _ => have := a.toNat_lt; have := b.toNat_lt; have := c.toNat_lt; simp only [List.foldl, Cx.rstep]; omega

set_option maxRecDepth 100000 in
set_option maxHeartbeats 4000000 in
theorem rune10_calls (s : ByteArray) (w : World) (hs : s.size ≤ maxLen) : Calls Tryz.prog 66 #[.string s] w (RunePost s.data.toList w) := by
  unfold maxLen at hs
  by_cases h0 : s.size = 0
  · have he : s = ⟨#[]⟩ := by
      apply ByteArray.ext
      apply Array.eq_empty_of_size_eq_zero
      exact h0
    subst he
    go_enter Tryz.func66, Tryz.ntmps66
    go_wp2
    go_ret2
    exact ⟨Below.refl _ _, fun h => absurd rfl h, fun _ => rfl⟩
  have hemp : s.toList.isEmpty = false := by
    rw [← decide_eq_emptyBytes]
    exact decide_eq_false (fun h => h0 (by rw [h]; rfl))
  have h0i : (0 : Int) < (s.size : Int) := by omega
  have hle := Cx.runeLen_le s.data.toList
  have HLE := Lib.hid hle
  clear hle
  go_enter Tryz.func66, Tryz.ntmps66
  go_wp2
  go_loopg [4] 5 (fun q x wr => ∃ n : Nat, x = .int .i64 n ∧ q = 6 - n ∧ 1 ≤ n ∧ n ≤ 5 ∧ (n = 5 ∨ n ≤ s.size + 1) ∧ Hid (∀ k, 1 ≤ k → k < n → Cx.runeLen s.data.toList ≠ k) ∧ Hid (Below w.heap.size w wr))
  case atStart => exact ⟨1, rfl, rfl, by omega, by omega, by omega, Lib.hid (fun k h1 h2 => by omega), Lib.hid (Below.refl _ _)⟩
  case round =>
    obtain ⟨n, rfl, hq, hn1, hn5, hns, HK, HB⟩ := hrel
    have HQ := Lib.hid hq
    clear hq
    by_cases hin : n ≤ 4 ∧ n ≤ s.size
    · obtain ⟨hn4, hnl⟩ := hin
      obtain ⟨a, ha⟩ : ∃ a, a = s[0]'(by omega) := ⟨_, rfl⟩
      have hc0 : ((s[0]'(by omega)).toNat : Int) = (a.toNat : Int) := by rw [ha]
      have ha256 := a.toNat_lt
      obtain ⟨r, hr⟩ : ∃ r, s.data.toList = a :: r := by
        cases hx : s.data.toList with
        | nil => exact absurd (show s.size = 0 from by have := congrArg List.length hx; simpa using this) h0
        | cons c r =>
          refine ⟨r, ?_⟩
          have : s.data.toList[0]? = some (s[0]'(by omega)) := List.getElem?_eq_getElem (show 0 < s.data.toList.length from by show 0 < s.size; omega)
          rw [hx] at this
          simp only [List.getElem?_cons_zero, Option.some.injEq] at this
          rw [ha, this]
      have HR := Lib.hid hr
      have HN := Lib.hid (Cx.rune_n s.data.toList n hn1 hn4 hnl)
      have hnI : (n : Int) ≤ (s.size : Int) := by omega
      clear hr hns hn5 ha
      have hcases : n = 1 ∨ n = 2 ∨ n = 3 ∨ n = 4 := by omega
      have hget : ∀ k, 1 ≤ k → ∀ h : k < s.size, r[k - 1]? = some s[k] := by
        intro k hk h
        have h1 : s.data.toList[k]? = some s[k] := List.getElem?_eq_getElem (show k < s.data.toList.length from h)
        rw [HR.out] at h1
        obtain ⟨j, rfl⟩ : ∃ j, k = j + 1 := ⟨k - 1, by omega⟩
        simpa using h1
      have HG := Lib.hid hget
      clear hget
      rcases hcases with rfl | rfl | rfl | rfl
      · go_wp2_with fail
        go_loop [5, 6] (fun vv vi => ∃ (v : Int) (k : Nat), vv = .int .i64 v ∧ vi = .int .i64 k ∧ 1 ≤ k ∧ k ≤ 1 ∧ Hid (v = (r.take (k - 1)).foldl Cx.rstep (Cx.rbase 1 a))) (fun _ vi => 1 - (intOf vi).toNat)
        case atStart => exact ⟨_, 1, rfl, rfl, by omega, by omega, Lib.hid (by simp [Cx.rbase])⟩
        case round =>
          obtain ⟨v, k, rfl, rfl, hk1, hkn, HV⟩ := hrel
          have hbd := runeV_bound (r.take (k - 1)) (Cx.rbase 1 a) (by simp [Cx.rbase] <;> omega) (by simp [Cx.rbase] <;> omega) (by simp; omega)
          rw [← HV.out] at hbd
          rcases Nat.lt_or_ge k 1 with hlt | hge
          · omega
          · have hkk : k = 1 := by omega
            subst hkk
            have hv : v = Cx.runeV 1 s.data.toList := by rw [HV.out, HR.out]; rfl
            have HVV := Lib.hid hv
            clear hv hge
            go_wp2_with fail
            refine (is10_calls v _).mono ?_
            rintro e w3 ⟨rfl, hw3⟩
            subst hw3
            by_cases hru : Cx.isRune v = true
            · rw [hru]
              obtain ⟨vn, rfl⟩ : ∃ vn : Nat, v = (vn : Int) := ⟨v.toNat, by have := Cx.isRune_iff.1 hru; omega⟩
              have hvn : vn ≤ 1114111 := by have := Cx.isRune_iff.1 hru; omega
              have hiff : Cx.enc vn = s.data.toList.take 1 ↔ Cx.runeLen s.data.toList = 1 := by
                have := HN.out
                rw [← HVV.out, hru] at this
                simpa using this
              have HI := Lib.hid hiff
              clear hiff hru
              go_wp2_with fail
              go_region_held3 (fun _ => True) (first | trivial) (first | (go_at_call 111; refine (bytes10_calls vn hvn _).mono ?_; rintro e w7 ⟨rfl, hb7⟩))
              have hex : (s.extract 0 1).toList = s.data.toList.take 1 := by rw [extract_list]; simp
              have HB7 := Lib.hid (HB.out.drew.trans (hb7.mono HB.out.size))
              clear hb7
              have HEX := Lib.hid hex
              clear hex
              go_wp2_with fail
              · have h' : (Cx.enc vn == (s.extract 0 1).toList) = true := by assumption
                have hR : Cx.runeLen s.data.toList = 1 := HI.out.1 (by rw [HEX.out] at h'; simpa using h')
                go_ret2
                exact ⟨HB7.out, fun _ => ⟨vn, by omega, by rw [hR]; rfl⟩, fun h => by rw [hR] at h; cases h⟩
              · have h' : (Cx.enc vn == (s.extract 0 1).toList) = false := by assumption
                have hR : Cx.runeLen s.data.toList ≠ 1 := fun h => by rw [HEX.out, HI.out.2 h] at h'; simp at h'
                go_roundg (4)
                case measure => have := HQ.out; omega
                case rel => exact ⟨1 + 1, by go_num, rfl, by omega, by omega, by omega, Lib.hid (fun k' h1 h2 => by rcases Nat.lt_or_ge k' 1 with g | g; exact HK.out k' h1 g; rw [show k' = 1 by omega]; exact hR), HB7⟩
            · have hrf : Cx.isRune v = false := by simpa using hru
              rw [hrf]
              have hno : Cx.runeLen s.data.toList ≠ 1 := fun h => by
                have := HN.out.2 h
                rw [← HVV.out] at this
                exact hru this.1
              have HNO := Lib.hid hno
              clear hno hru hrf
              go_wp2_with fail
              go_quiet (fail)
              go_wp2_with fail
              go_roundg (4)
              case measure => have := HQ.out; omega
              case rel => exact ⟨1 + 1, by go_num, rfl, by omega, by omega, by omega, Lib.hid (fun k' h1 h2 => by rcases Nat.lt_or_ge k' 1 with g | g; exact HK.out k' h1 g; rw [show k' = 1 by omega]; exact HNO.out), Lib.hid (below_dN2 HB.out _)⟩
      · go_wp2_with fail
        go_loop [5, 6] (fun vv vi => ∃ (v : Int) (k : Nat), vv = .int .i64 v ∧ vi = .int .i64 k ∧ 1 ≤ k ∧ k ≤ 2 ∧ Hid (v = (r.take (k - 1)).foldl Cx.rstep (Cx.rbase 2 a))) (fun _ vi => 2 - (intOf vi).toNat)
        case atStart => exact ⟨_, 1, rfl, rfl, by omega, by omega, Lib.hid (by simp [Cx.rbase])⟩
        case round =>
          obtain ⟨v, k, rfl, rfl, hk1, hkn, HV⟩ := hrel
          have hbd := runeV_bound (r.take (k - 1)) (Cx.rbase 2 a) (by simp [Cx.rbase] <;> omega) (by simp [Cx.rbase] <;> omega) (by simp; omega)
          rw [← HV.out] at hbd
          rcases Nat.lt_or_ge k 2 with hlt | hge
          · have hks : k < s.size := by omega
            have hnext : (r.take k).foldl Cx.rstep (Cx.rbase 2 a) = 64 * v + (s[k].toNat : Int) - 128 := by
              rw [show r.take k = r.take (k - 1) ++ [s[k]] from by
                conv => lhs; rw [show k = (k - 1) + 1 by omega, List.take_add_one, HG.out k hk1 hks]
                rfl]
              rw [List.foldl_append, ← HV.out]; rfl
            have HX := Lib.hid hnext
            clear hnext
            have h256 := (s[k]).toNat_lt
            go_wp2_with fail
            go_round
            case rel => exact ⟨_, k + 1, rfl, by go_num, by omega, by omega, Lib.hid (by rw [show k + 1 - 1 = k from rfl, HX.out])⟩
            case measure => simp [intOf]; omega
          · have hkk : k = 2 := by omega
            subst hkk
            have hv : v = Cx.runeV 2 s.data.toList := by rw [HV.out, HR.out]; rfl
            have HVV := Lib.hid hv
            clear hv hge
            go_wp2_with fail
            refine (is10_calls v _).mono ?_
            rintro e w3 ⟨rfl, hw3⟩
            subst hw3
            by_cases hru : Cx.isRune v = true
            · rw [hru]
              obtain ⟨vn, rfl⟩ : ∃ vn : Nat, v = (vn : Int) := ⟨v.toNat, by have := Cx.isRune_iff.1 hru; omega⟩
              have hvn : vn ≤ 1114111 := by have := Cx.isRune_iff.1 hru; omega
              have hiff : Cx.enc vn = s.data.toList.take 2 ↔ Cx.runeLen s.data.toList = 2 := by
                have := HN.out
                rw [← HVV.out, hru] at this
                simpa using this
              have HI := Lib.hid hiff
              clear hiff hru
              go_wp2_with fail
              go_region_held3 (fun _ => True) (first | trivial) (first | (go_at_call 111; refine (bytes10_calls vn hvn _).mono ?_; rintro e w7 ⟨rfl, hb7⟩))
              have hex : (s.extract 0 2).toList = s.data.toList.take 2 := by rw [extract_list]; simp
              have HB7 := Lib.hid (HB.out.drew.trans (hb7.mono HB.out.size))
              clear hb7
              have HEX := Lib.hid hex
              clear hex
              go_wp2_with fail
              · have h' : (Cx.enc vn == (s.extract 0 2).toList) = true := by assumption
                have hR : Cx.runeLen s.data.toList = 2 := HI.out.1 (by rw [HEX.out] at h'; simpa using h')
                go_ret2
                exact ⟨HB7.out, fun _ => ⟨vn, by omega, by rw [hR]; rfl⟩, fun h => by rw [hR] at h; cases h⟩
              · have h' : (Cx.enc vn == (s.extract 0 2).toList) = false := by assumption
                have hR : Cx.runeLen s.data.toList ≠ 2 := fun h => by rw [HEX.out, HI.out.2 h] at h'; simp at h'
                go_roundg (3)
                case measure => have := HQ.out; omega
                case rel => exact ⟨2 + 1, by go_num, rfl, by omega, by omega, by omega, Lib.hid (fun k' h1 h2 => by rcases Nat.lt_or_ge k' 2 with g | g; exact HK.out k' h1 g; rw [show k' = 2 by omega]; exact hR), HB7⟩
            · have hrf : Cx.isRune v = false := by simpa using hru
              rw [hrf]
              have hno : Cx.runeLen s.data.toList ≠ 2 := fun h => by
                have := HN.out.2 h
                rw [← HVV.out] at this
                exact hru this.1
              have HNO := Lib.hid hno
              clear hno hru hrf
              go_wp2_with fail
              go_quiet (fail)
              go_wp2_with fail
              go_roundg (3)
              case measure => have := HQ.out; omega
              case rel => exact ⟨2 + 1, by go_num, rfl, by omega, by omega, by omega, Lib.hid (fun k' h1 h2 => by rcases Nat.lt_or_ge k' 2 with g | g; exact HK.out k' h1 g; rw [show k' = 2 by omega]; exact HNO.out), Lib.hid (below_dN2 HB.out _)⟩
      · go_wp2_with fail
        go_loop [5, 6] (fun vv vi => ∃ (v : Int) (k : Nat), vv = .int .i64 v ∧ vi = .int .i64 k ∧ 1 ≤ k ∧ k ≤ 3 ∧ Hid (v = (r.take (k - 1)).foldl Cx.rstep (Cx.rbase 3 a))) (fun _ vi => 3 - (intOf vi).toNat)
        case atStart => exact ⟨_, 1, rfl, rfl, by omega, by omega, Lib.hid (by simp [Cx.rbase])⟩
        case round =>
          obtain ⟨v, k, rfl, rfl, hk1, hkn, HV⟩ := hrel
          have hbd := runeV_bound (r.take (k - 1)) (Cx.rbase 3 a) (by simp [Cx.rbase] <;> omega) (by simp [Cx.rbase] <;> omega) (by simp; omega)
          rw [← HV.out] at hbd
          rcases Nat.lt_or_ge k 3 with hlt | hge
          · have hks : k < s.size := by omega
            have hnext : (r.take k).foldl Cx.rstep (Cx.rbase 3 a) = 64 * v + (s[k].toNat : Int) - 128 := by
              rw [show r.take k = r.take (k - 1) ++ [s[k]] from by
                conv => lhs; rw [show k = (k - 1) + 1 by omega, List.take_add_one, HG.out k hk1 hks]
                rfl]
              rw [List.foldl_append, ← HV.out]; rfl
            have HX := Lib.hid hnext
            clear hnext
            have h256 := (s[k]).toNat_lt
            go_wp2_with fail
            go_round
            case rel => exact ⟨_, k + 1, rfl, by go_num, by omega, by omega, Lib.hid (by rw [show k + 1 - 1 = k from rfl, HX.out])⟩
            case measure => simp [intOf]; omega
          · have hkk : k = 3 := by omega
            subst hkk
            have hv : v = Cx.runeV 3 s.data.toList := by rw [HV.out, HR.out]; rfl
            have HVV := Lib.hid hv
            clear hv hge
            go_wp2_with fail
            refine (is10_calls v _).mono ?_
            rintro e w3 ⟨rfl, hw3⟩
            subst hw3
            by_cases hru : Cx.isRune v = true
            · rw [hru]
              obtain ⟨vn, rfl⟩ : ∃ vn : Nat, v = (vn : Int) := ⟨v.toNat, by have := Cx.isRune_iff.1 hru; omega⟩
              have hvn : vn ≤ 1114111 := by have := Cx.isRune_iff.1 hru; omega
              have hiff : Cx.enc vn = s.data.toList.take 3 ↔ Cx.runeLen s.data.toList = 3 := by
                have := HN.out
                rw [← HVV.out, hru] at this
                simpa using this
              have HI := Lib.hid hiff
              clear hiff hru
              go_wp2_with fail
              go_region_held3 (fun _ => True) (first | trivial) (first | (go_at_call 111; refine (bytes10_calls vn hvn _).mono ?_; rintro e w7 ⟨rfl, hb7⟩))
              have hex : (s.extract 0 3).toList = s.data.toList.take 3 := by rw [extract_list]; simp
              have HB7 := Lib.hid (HB.out.drew.trans (hb7.mono HB.out.size))
              clear hb7
              have HEX := Lib.hid hex
              clear hex
              go_wp2_with fail
              · have h' : (Cx.enc vn == (s.extract 0 3).toList) = true := by assumption
                have hR : Cx.runeLen s.data.toList = 3 := HI.out.1 (by rw [HEX.out] at h'; simpa using h')
                go_ret2
                exact ⟨HB7.out, fun _ => ⟨vn, by omega, by rw [hR]; rfl⟩, fun h => by rw [hR] at h; cases h⟩
              · have h' : (Cx.enc vn == (s.extract 0 3).toList) = false := by assumption
                have hR : Cx.runeLen s.data.toList ≠ 3 := fun h => by rw [HEX.out, HI.out.2 h] at h'; simp at h'
                go_roundg (2)
                case measure => have := HQ.out; omega
                case rel => exact ⟨3 + 1, by go_num, rfl, by omega, by omega, by omega, Lib.hid (fun k' h1 h2 => by rcases Nat.lt_or_ge k' 3 with g | g; exact HK.out k' h1 g; rw [show k' = 3 by omega]; exact hR), HB7⟩
            · have hrf : Cx.isRune v = false := by simpa using hru
              rw [hrf]
              have hno : Cx.runeLen s.data.toList ≠ 3 := fun h => by
                have := HN.out.2 h
                rw [← HVV.out] at this
                exact hru this.1
              have HNO := Lib.hid hno
              clear hno hru hrf
              go_wp2_with fail
              go_quiet (fail)
              go_wp2_with fail
              go_roundg (2)
              case measure => have := HQ.out; omega
              case rel => exact ⟨3 + 1, by go_num, rfl, by omega, by omega, by omega, Lib.hid (fun k' h1 h2 => by rcases Nat.lt_or_ge k' 3 with g | g; exact HK.out k' h1 g; rw [show k' = 3 by omega]; exact HNO.out), Lib.hid (below_dN2 HB.out _)⟩
      · go_wp2_with fail
        go_loop [5, 6] (fun vv vi => ∃ (v : Int) (k : Nat), vv = .int .i64 v ∧ vi = .int .i64 k ∧ 1 ≤ k ∧ k ≤ 4 ∧ Hid (v = (r.take (k - 1)).foldl Cx.rstep (Cx.rbase 4 a))) (fun _ vi => 4 - (intOf vi).toNat)
        case atStart => exact ⟨_, 1, rfl, rfl, by omega, by omega, Lib.hid (by simp [Cx.rbase])⟩
        case round =>
          obtain ⟨v, k, rfl, rfl, hk1, hkn, HV⟩ := hrel
          have hbd := runeV_bound (r.take (k - 1)) (Cx.rbase 4 a) (by simp [Cx.rbase] <;> omega) (by simp [Cx.rbase] <;> omega) (by simp; omega)
          rw [← HV.out] at hbd
          rcases Nat.lt_or_ge k 4 with hlt | hge
          · have hks : k < s.size := by omega
            have hnext : (r.take k).foldl Cx.rstep (Cx.rbase 4 a) = 64 * v + (s[k].toNat : Int) - 128 := by
              rw [show r.take k = r.take (k - 1) ++ [s[k]] from by
                conv => lhs; rw [show k = (k - 1) + 1 by omega, List.take_add_one, HG.out k hk1 hks]
                rfl]
              rw [List.foldl_append, ← HV.out]; rfl
            have HX := Lib.hid hnext
            clear hnext
            have h256 := (s[k]).toNat_lt
            go_wp2_with fail
            go_round
            case rel => exact ⟨_, k + 1, rfl, by go_num, by omega, by omega, Lib.hid (by rw [show k + 1 - 1 = k from rfl, HX.out])⟩
            case measure => simp [intOf]; omega
          · have hkk : k = 4 := by omega
            subst hkk
            have hv : v = Cx.runeV 4 s.data.toList := by rw [HV.out, HR.out]; rfl
            have HVV := Lib.hid hv
            clear hv hge
            go_wp2_with fail
            refine (is10_calls v _).mono ?_
            rintro e w3 ⟨rfl, hw3⟩
            subst hw3
            by_cases hru : Cx.isRune v = true
            · rw [hru]
              obtain ⟨vn, rfl⟩ : ∃ vn : Nat, v = (vn : Int) := ⟨v.toNat, by have := Cx.isRune_iff.1 hru; omega⟩
              have hvn : vn ≤ 1114111 := by have := Cx.isRune_iff.1 hru; omega
              have hiff : Cx.enc vn = s.data.toList.take 4 ↔ Cx.runeLen s.data.toList = 4 := by
                have := HN.out
                rw [← HVV.out, hru] at this
                simpa using this
              have HI := Lib.hid hiff
              clear hiff hru
              go_wp2_with fail
              go_region_held3 (fun _ => True) (first | trivial) (first | (go_at_call 111; refine (bytes10_calls vn hvn _).mono ?_; rintro e w7 ⟨rfl, hb7⟩))
              have hex : (s.extract 0 4).toList = s.data.toList.take 4 := by rw [extract_list]; simp
              have HB7 := Lib.hid (HB.out.drew.trans (hb7.mono HB.out.size))
              clear hb7
              have HEX := Lib.hid hex
              clear hex
              go_wp2_with fail
              · have h' : (Cx.enc vn == (s.extract 0 4).toList) = true := by assumption
                have hR : Cx.runeLen s.data.toList = 4 := HI.out.1 (by rw [HEX.out] at h'; simpa using h')
                go_ret2
                exact ⟨HB7.out, fun _ => ⟨vn, by omega, by rw [hR]; rfl⟩, fun h => by rw [hR] at h; cases h⟩
              · have h' : (Cx.enc vn == (s.extract 0 4).toList) = false := by assumption
                have hR : Cx.runeLen s.data.toList ≠ 4 := fun h => by rw [HEX.out, HI.out.2 h] at h'; simp at h'
                go_roundg (1)
                case measure => have := HQ.out; omega
                case rel => exact ⟨4 + 1, by go_num, rfl, by omega, by omega, by omega, Lib.hid (fun k' h1 h2 => by rcases Nat.lt_or_ge k' 4 with g | g; exact HK.out k' h1 g; rw [show k' = 4 by omega]; exact hR), HB7⟩
            · have hrf : Cx.isRune v = false := by simpa using hru
              rw [hrf]
              have hno : Cx.runeLen s.data.toList ≠ 4 := fun h => by
                have := HN.out.2 h
                rw [← HVV.out] at this
                exact hru this.1
              have HNO := Lib.hid hno
              clear hno hru hrf
              go_wp2_with fail
              go_quiet (fail)
              go_wp2_with fail
              go_roundg (1)
              case measure => have := HQ.out; omega
              case rel => exact ⟨4 + 1, by go_num, rfl, by omega, by omega, by omega, Lib.hid (fun k' h1 h2 => by rcases Nat.lt_or_ge k' 4 with g | g; exact HK.out k' h1 g; rw [show k' = 4 by omega]; exact HNO.out), Lib.hid (below_dN2 HB.out _)⟩
    · have hr0 : Cx.runeLen s.data.toList = 0 := by
        rcases Nat.eq_zero_or_pos (Cx.runeLen s.data.toList) with h | h
        · exact h
        · exfalso
          have h1 := HLE.out
          have h2 : s.data.toList.length = s.size := rfl
          exact HK.out _ h (by omega) rfl
      have HR0 := Lib.hid hr0
      clear hr0
      have hend : n = 5 ∨ (n ≤ 4 ∧ n = s.size + 1) := by omega
      have hne : s.data.toList ≠ [] := fun h => h0 (by have := congrArg List.length h; simpa using this)
      have HNE := Lib.hid hne
      clear hne hin hns
      rcases hend with rfl | ⟨hn4, hn⟩
      · go_wp2_with fail
        go_ret2
        exact ⟨HB.out, fun h => absurd HR0.out h, fun _ => by rw [if_neg HNE.out]; rfl⟩
      · have hnI : ¬ (n : Int) ≤ (s.size : Int) := by omega
        go_wp2_with fail
        go_ret2
        exact ⟨HB.out, fun h => absurd HR0.out h, fun _ => by rw [if_neg HNE.out]; rfl⟩
end Go.Proofs.YtejlddimokmgjaaGreatDoor
