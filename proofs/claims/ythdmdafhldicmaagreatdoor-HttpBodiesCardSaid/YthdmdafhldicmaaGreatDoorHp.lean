/- WALKS: strconv.ParseUint at base 16. -/
import Derived.Test.YthdmdafhldicmaaGreatDoorHl
import Derived.Lib.Strings
import Derived.Lib.ConvBytes
import Derived.Lib.AtoiAllMem
import Derived.Laws.Strings3
import Derived.Laws.Closers25
import Derived.Laws.Closers25b
import Derived.BigCall
import Derived.BigGuard
namespace Go.Proofs.YthdmdafhldicmaaGreatDoor
open Go.RowKit

/-- A byte with the bit of small letters, under a name that a walk does not open. -/
def lowv (c : Int) : Int := bits .or .u8 c 32
theorem lowv_95 : lowv 95 = 127 := by decide +kernel
set_option maxRecDepth 100000 in
theorem lowv_all : ∀ k : Fin 256, 0 ≤ bits .or .u8 k.val 32 ∧ bits .or .u8 k.val 32 ≤ 255 ∧
    ((48 ≤ k.val ∧ k.val ≤ 57) ∨ (97 ≤ bits .or .u8 k.val 32 ∧ bits .or .u8 k.val 32 ≤ 102 ∧ Hx.hexv (UInt8.ofNat k.val) = some (bits .or .u8 k.val 32 - 87).toNat) ∨ ((bits .or .u8 k.val 32 < 97 ∨ 102 < bits .or .u8 k.val 32) ∧ Hx.hexv (UInt8.ofNat k.val) = none)) := by decide +kernel
theorem lowv_cases (c : UInt8) : 0 ≤ lowv c.toNat ∧ lowv c.toNat ≤ 255 ∧
    ((48 ≤ c.toNat ∧ c.toNat ≤ 57) ∨ (97 ≤ lowv c.toNat ∧ lowv c.toNat ≤ 102 ∧ Hx.hexv c = some (lowv c.toNat - 87).toNat) ∨ ((lowv c.toNat < 97 ∨ 102 < lowv c.toNat) ∧ Hx.hexv c = none)) := by
  have := lowv_all ⟨c.toNat, c.toNat_lt⟩
  simpa [lowv] using this
theorem slower_calls (c : Int) (w : World) : Calls Tryz.prog 67 #[.int .u8 c] w fun e w' => e = .returned (.int .u8 (lowv c)) ∧ w' = w := Tryz.internal_strconv_lower _ _

/-- What digits of base 16 say, if no number on the way is above the greatest. -/
def hexU (most : Nat) : List UInt8 → Nat → Option Nat
  | [], n => some n
  | c :: l, n => match Hx.hexv c with
    | none => none
    | some d => if most < n * 16 + d then none else hexU most l (n * 16 + d)

/-- .. what the call comes to: the number and no error, or an error. -/
def PuInner (r : Option Nat) (e : Ending) : Prop := (∀ n, r = some n → e = .returned (.tuple #[.int .u64 n, .nilIface])) ∧ (r = none → ∃ (x : Int) (k : Int), (k = 1 ∨ k = 2) ∧ e = .returned (.tuple #[.int .u64 x, .iface 96 (.int .i64 k)]))
theorem PuInner.some {n : Nat} {e : Ending} (h : e = .returned (.tuple #[.int .u64 n, .nilIface])) : PuInner (some n) e := ⟨fun m hm => by injection hm with hm; subst hm; exact h, fun h => by cases h⟩
theorem PuInner.none {x k : Int} {e : Ending} (hk : k = 1 ∨ k = 2) (h : e = .returned (.tuple #[.int .u64 x, .iface 96 (.int .i64 k)])) : PuInner none e := ⟨fun m hm => (by cases hm), fun _ => ⟨x, k, hk, h⟩⟩

/-- What a call of ParseUint comes to. -/
def PuOut (r : Option Nat) (e : Ending) : Prop := (∀ n, r = some n → e = .returned (.tuple #[.int .u64 n, .nilIface])) ∧ (r = none → ∃ (x : Int) (t : Nat) (p : Value), e = .returned (.tuple #[.int .u64 x, .iface t p]))

set_option maxHeartbeats 4000000 in
set_option maxRecDepth 100000 in
theorem parseUint_inner64 (t : ByteArray) (hne : t.size ≠ 0) (hmax : t.size ≤ 9223372036854775806) (w : World) :
    Calls Tryz.prog 45 #[.string t, .int .i64 16, .int .i64 64] w fun e w' => PuInner (hexU 18446744073709551615 t.data.toList 0) e ∧ w' = Lib.bytesWorld w 5 t := by
  have hemp : t.toList.isEmpty = false := by
    rw [← decide_eq_emptyBytes]
    exact decide_eq_false (fun h => hne (by rw [h]; rfl))
  have hcv := Lib.run_convert_string_bytes (P := Tryz.prog) w 9 50 5 t (u := .string) Tryz.underlying9 Tryz.underlying50 Tryz.underlying5
  have hB : ∀ j, j < t.size → (Lib.bytesWorld w 5 t).cell? ⟨w.heap.size, j, none⟩ = some (.int .u8 (t.data.toList.getD j 0).toNat) := fun j hj => Lib.bytesWorld_cell w 5 t j hj
  obtain ⟨W1, hW1⟩ : ∃ W1, W1 = Lib.bytesWorld w 5 t := ⟨_, rfl⟩
  rw [← hW1] at hcv hB ⊢
  clear hW1
  obtain ⟨bs, hL⟩ : ∃ bs, bs = t.data.toList := ⟨_, rfl⟩
  have hLn : bs.length = t.size := by rw [hL, Lib.size_eq]
  rw [← hL] at hB ⊢
  clear hL
  obtain ⟨RES, hRES⟩ : ∃ RES, RES = hexU 18446744073709551615 bs 0 := ⟨_, rfl⟩
  rw [← hRES]
  have HRES := Lib.hid hRES; clear hRES
  have hmx : IntKind.u64.wrap (IntKind.u64.wrap 18446744073709551616 - 1) = 18446744073709551615 := by decide
  have hmx0 : IntKind.u64.wrap 18446744073709551616 = 0 := by decide
  have hmx1 : IntKind.u64.wrap (-1) = 18446744073709551615 := by decide
  go_enter Tryz.func45, Tryz.ntmps45
  go_wp2
  go_loop [12, 13, 101] (fun vu vn vi => ∃ (k : Nat) (acc : Int), vu = .bool false ∧ vn = .int .u64 acc ∧ vi = .int .i64 k ∧ k ≤ t.size ∧ 0 ≤ acc ∧ acc ≤ 18446744073709551615 ∧ Hid (RES = hexU 18446744073709551615 (bs.drop k) acc.toNat))
    (fun _ _ vi => t.size - (intOf vi).toNat)
  case atStart => exact ⟨0, 0, rfl, rfl, rfl, by omega, by omega, by omega, HRES.out⟩
  case round =>
    obtain ⟨k, a, rfl, rfl, rfl, hk, a0, a1, hdec⟩ := hrel
    by_cases hkn : k < t.size
    · have hc := hB k hkn
      have hdrop : bs.drop k = bs[k]'(by omega) :: bs.drop (k + 1) := List.drop_eq_getElem_cons (by omega)
      have hget : bs.getD k 0 = bs[k]'(by omega) := by simp [List.getD, List.getElem?_eq_getElem (show k < bs.length by omega)]
      have hdec := hdec.out
      rw [hdrop] at hdec
      rw [hget] at hc
      generalize bs[k]'(by omega) = c at hc hdec
      have hc256 : c.toNat < 256 := c.toNat_lt
      clear hB hdrop hget
      obtain ⟨l0, l1, hcases⟩ := lowv_cases c
      by_cases hdig : 48 ≤ c.toNat ∧ c.toNat ≤ 57
      · obtain ⟨hd0, hd1⟩ := hdig
        have hx : Hx.hexv c = some (c.toNat - 48) := by unfold Hx.hexv; rw [if_pos ⟨hd0, hd1⟩]
        clear hcases
        by_cases hov : 1152921504606846976 ≤ a.toNat
        · have hF : RES = none := by rw [hdec]; simp only [hexU, hx]; rw [if_pos (by omega)]
          have iov : (1152921504606846976 : Int) ≤ a := by omega
          have HF := Lib.hid hF
          clear hF hdec hov hx
          go_wp2_with fail
          go_ret2
          rw [HF.out]
          exact ⟨PuInner.none (.inl rfl) rfl, rfl⟩
        · have hF : RES = hexU 18446744073709551615 (bs.drop (k + 1)) (a.toNat * 16 + (c.toNat - 48)) := by rw [hdec]; simp only [hexU, hx]; rw [if_neg (by omega)]
          have HF := Lib.hid hF
          have iov : a < (1152921504606846976 : Int) := by omega
          have iov2 : a * 16 + ((c.toNat : Int) - 48) ≤ 18446744073709551615 := by omega
          clear hF hdec hov hx
          go_wp2_with fail
          refine ⟨⟨k + 1, a * 16 + ((c.toNat : Int) - 48), ?_, ?_, ?_, by omega, by omega, by omega, ?_⟩, ?_⟩
          · rfl
          · rfl
          · go_num
          · rw [show (a * 16 + ((c.toNat : Int) - 48)).toNat = a.toNat * 16 + (c.toNat - 48) by omega]
            exact HF
          · simp [intOf]; omega
      · have hcases := hcases.resolve_left hdig
        have hnd : c.toNat < 48 ∨ 57 < c.toNat := by omega
        clear hdig
        rcases hcases with ⟨e0, e1, hx⟩ | ⟨hlo, hx⟩
        · -- a letter that is a digit
          have h95 : ((c.toNat : Int) == 95) = false := by
            rw [beq_eq_false_iff_ne]; intro h; rw [h, lowv_95] at e1; omega
          by_cases hov : 1152921504606846976 ≤ a.toNat
          · have hF : RES = none := by rw [hdec]; simp only [hexU, hx]; rw [if_pos (by omega)]
            have iov : (1152921504606846976 : Int) ≤ a := by omega
            have HF := Lib.hid hF
            clear hF hdec hov hx
            rcases hnd with hnd | hnd
            all_goals
              go_wp2_with (go_at_call 67; refine (slower_calls _ _).mono ?_; rintro e w' ⟨rfl, rfl⟩)
              go_ret2
              rw [HF.out]
              exact ⟨PuInner.none (.inl rfl) rfl, rfl⟩
          · have hF : RES = hexU 18446744073709551615 (bs.drop (k + 1)) (a.toNat * 16 + (lowv c.toNat - 87).toNat) := by rw [hdec]; simp only [hexU, hx]; rw [if_neg (by omega)]
            have HF := Lib.hid hF
            have iov : a < (1152921504606846976 : Int) := by omega
            have iov2 : a * 16 + (lowv c.toNat - 97 + 10) ≤ 18446744073709551615 := by omega
            clear hF hdec hov hx
            rcases hnd with hnd | hnd
            all_goals
              go_wp2_with (go_at_call 67; refine (slower_calls _ _).mono ?_; rintro e w' ⟨rfl, rfl⟩)
              refine ⟨⟨k + 1, a * 16 + (lowv c.toNat - 97 + 10), ?_, ?_, ?_, by omega, by omega, by omega, ?_⟩, ?_⟩
              · rfl
              · rfl
              · go_num
              · rw [show (a * 16 + (lowv c.toNat - 97 + 10)).toNat = a.toNat * 16 + (lowv c.toNat - 87).toNat by omega]
                exact HF
              · simp [intOf]; omega
        · have hF : RES = none := by rw [hdec]; simp only [hexU, hx]
          have HF := Lib.hid hF
          clear hF hdec hx
          by_cases h95 : (c.toNat : Int) = 95
          · rw [h95] at hc
            have hl : 102 < lowv 95 := by rw [lowv_95]; decide
            have hl2 : lowv 95 ≤ 255 := by rw [lowv_95]; decide
            clear l0 l1 hnd hlo h95 hc256
            go_wp2_with (go_at_call 67; refine (slower_calls _ _).mono ?_; rintro e w' ⟨rfl, rfl⟩)
            all_goals go_ret2
            all_goals rw [HF.out]
            all_goals exact ⟨PuInner.none (.inr rfl) rfl, rfl⟩
          have h95 : ((c.toNat : Int) == 95) = false := by rw [beq_eq_false_iff_ne]; exact h95
          rcases hnd with hnd | hnd <;> rcases hlo with hlo | hlo
          all_goals
            go_wp2_with (go_at_call 67; refine (slower_calls _ _).mono ?_; rintro e w' ⟨rfl, rfl⟩)
            all_goals go_ret2
            all_goals rw [HF.out]
            all_goals exact ⟨PuInner.none (.inr rfl) rfl, rfl⟩
    · have hkk : k = t.size := by omega
      subst hkk
      have hF : RES = some a.toNat := by rw [hdec.out, List.drop_eq_nil_of_le (by omega)]; rfl
      have HF := Lib.hid hF
      clear hF hdec
      go_wp2
      go_ret2
      rw [HF.out]
      exact ⟨PuInner.some (by rw [Int.toNat_of_nonneg a0]; rfl), rfl⟩

theorem parseUint64_calls (t : ByteArray) (hne : t.size ≠ 0) (hmax : t.size ≤ 281474976710656) (w : World) (hg : Glb w) :
    Calls Tryz.prog 29 #[.string t, .int .i64 16, .int .i64 64] w fun e w' => PuOut (hexU 18446744073709551615 t.data.toList 0) e ∧ Below w.heap.size w w' := by
  have HG := Lib.hid hg; clear hg
  have hm2 : t.size ≤ 9223372036854775806 := by omega
  have hB : Below w.heap.size w (Lib.bytesWorld w 5 t) := by
    have h := ((Below.refl w.heap.size w).drew).alloc (o := .cells (Lib.bytesCells w 5 t) 5) (Nat.le_refl _)
    exact h.trans ⟨rfl, rfl, rfl, by simp [Lib.bytesWorld, World.freeze], fun k hk => by simp [Lib.bytesWorld, World.freeze, Array.getElem?_modify]; intro e; omega⟩
  have HB := Lib.hid hB; clear hB
  cases hr : hexU 18446744073709551615 t.data.toList 0 with
  | some n =>
    have HR := Lib.hid hr; clear hr
    go_enter Tryz.func29, Tryz.ntmps29
    go_wp2_with fail
    refine (parseUint_inner64 t hne hm2 w).mono ?_
    rintro e w1 ⟨hp, hw⟩
    have he := hp.1 n HR.out
    subst he
    have HW := Lib.hid hw; clear hw hp hm2 hmax hne
    go_wp2
    go_ret2
    exact ⟨⟨fun m hm => (by injection hm with hm; subst hm; rfl), fun h => by cases h⟩, by rw [HW.out]; exact HB.out⟩
  | none =>
    have HR := Lib.hid hr; clear hr
    go_enter Tryz.func29, Tryz.ntmps29
    go_wp2_with fail
    refine (parseUint_inner64 t hne hm2 w).mono ?_
    rintro e w1 ⟨hp, hw⟩
    obtain ⟨x, k, hk, rfl⟩ := hp.2 HR.out
    have hG1 : Glb w1 := by rw [hw]; exact HG.out.below HB.out
    have hB1 : Below w.heap.size w w1 := by rw [hw]; exact HB.out
    have HG1 := Lib.hid hG1; have HB1 := Lib.hid hB1
    have HM := Lib.hid hmax
    clear hw hp hG1 hB1 hm2 hmax hne
    rcases hk with rfl | rfl
    · go_wp2_with fail
      obtain ⟨v, hv, hev⟩ := HG1.out.2.2
      refine (Tryz.strconv_toError_range _ t _ _ v w1 HM.out hv hev).mono ?_
      rintro e w2 ⟨N, rfl, _, _, hb2⟩
      have HB2 := Lib.hid hb2
      clear hb2 hv hev
      go_wp2
      go_ret2
      exact ⟨⟨fun m hm => (by cases hm), fun _ => ⟨_, _, _, rfl⟩⟩, HB1.out.trans (HB2.out.mono HB1.out.size)⟩
    · go_wp2_with fail
      obtain ⟨v, hv, hev⟩ := HG1.out.2.1
      refine (Tryz.strconv_toError_syntax _ t _ _ v w1 HM.out hv hev).mono ?_
      rintro e w2 ⟨N, rfl, _, _, hb2⟩
      have HB2 := Lib.hid hb2
      clear hb2 hv hev
      go_wp2
      go_ret2
      exact ⟨⟨fun m hm => (by cases hm), fun _ => ⟨_, _, _, rfl⟩⟩, HB1.out.trans (HB2.out.mono HB1.out.size)⟩

set_option maxHeartbeats 4000000 in
set_option maxRecDepth 100000 in
theorem parseUint_inner8 (t : ByteArray) (hne : t.size ≠ 0) (hmax : t.size ≤ 9223372036854775806) (w : World) :
    Calls Tryz.prog 45 #[.string t, .int .i64 16, .int .i64 8] w fun e w' => PuInner (hexU 255 t.data.toList 0) e ∧ w' = Lib.bytesWorld w 5 t := by
  have hemp : t.toList.isEmpty = false := by
    rw [← decide_eq_emptyBytes]
    exact decide_eq_false (fun h => hne (by rw [h]; rfl))
  have hcv := Lib.run_convert_string_bytes (P := Tryz.prog) w 9 50 5 t (u := .string) Tryz.underlying9 Tryz.underlying50 Tryz.underlying5
  have hB : ∀ j, j < t.size → (Lib.bytesWorld w 5 t).cell? ⟨w.heap.size, j, none⟩ = some (.int .u8 (t.data.toList.getD j 0).toNat) := fun j hj => Lib.bytesWorld_cell w 5 t j hj
  obtain ⟨W1, hW1⟩ : ∃ W1, W1 = Lib.bytesWorld w 5 t := ⟨_, rfl⟩
  rw [← hW1] at hcv hB ⊢
  clear hW1
  obtain ⟨bs, hL⟩ : ∃ bs, bs = t.data.toList := ⟨_, rfl⟩
  have hLn : bs.length = t.size := by rw [hL, Lib.size_eq]
  rw [← hL] at hB ⊢
  clear hL
  obtain ⟨RES, hRES⟩ : ∃ RES, RES = hexU 255 bs 0 := ⟨_, rfl⟩
  rw [← hRES]
  have HRES := Lib.hid hRES; clear hRES
  go_enter Tryz.func45, Tryz.ntmps45
  go_wp2
  go_loop [12, 13, 101] (fun vu vn vi => ∃ (k : Nat) (acc : Int), vu = .bool false ∧ vn = .int .u64 acc ∧ vi = .int .i64 k ∧ k ≤ t.size ∧ 0 ≤ acc ∧ acc ≤ 255 ∧ Hid (RES = hexU 255 (bs.drop k) acc.toNat))
    (fun _ _ vi => t.size - (intOf vi).toNat)
  case atStart => exact ⟨0, 0, rfl, rfl, rfl, by omega, by omega, by omega, HRES.out⟩
  case round =>
    obtain ⟨k, a, rfl, rfl, rfl, hk, a0, a1, hdec⟩ := hrel
    by_cases hkn : k < t.size
    · have hc := hB k hkn
      have hdrop : bs.drop k = bs[k]'(by omega) :: bs.drop (k + 1) := List.drop_eq_getElem_cons (by omega)
      have hget : bs.getD k 0 = bs[k]'(by omega) := by simp [List.getD, List.getElem?_eq_getElem (show k < bs.length by omega)]
      have hdec := hdec.out
      rw [hdrop] at hdec
      rw [hget] at hc
      generalize bs[k]'(by omega) = c at hc hdec
      have hc256 : c.toNat < 256 := c.toNat_lt
      have hcut : a < 1152921504606846976 := by omega
      clear hB hdrop hget
      obtain ⟨l0, l1, hcases⟩ := lowv_cases c
      by_cases hdig : 48 ≤ c.toNat ∧ c.toNat ≤ 57
      · obtain ⟨hd0, hd1⟩ := hdig
        have hx : Hx.hexv c = some (c.toNat - 48) := by unfold Hx.hexv; rw [if_pos ⟨hd0, hd1⟩]
        clear hcases
        by_cases hov : 255 < a.toNat * 16 + (c.toNat - 48)
        · have hF : RES = none := by rw [hdec]; simp only [hexU, hx]; rw [if_pos hov]
          have iov : 255 < a * 16 + ((c.toNat : Int) - 48) := by omega
          have HF := Lib.hid hF
          clear hF hdec hov hx
          go_wp2_with fail
          go_ret2
          rw [HF.out]
          exact ⟨PuInner.none (.inl rfl) rfl, rfl⟩
        · have hF : RES = hexU 255 (bs.drop (k + 1)) (a.toNat * 16 + (c.toNat - 48)) := by rw [hdec]; simp only [hexU, hx]; rw [if_neg hov]
          have HF := Lib.hid hF
          have iov : a * 16 + ((c.toNat : Int) - 48) ≤ 255 := by omega
          clear hF hdec hov hx
          go_wp2_with fail
          refine ⟨⟨k + 1, a * 16 + ((c.toNat : Int) - 48), ?_, ?_, ?_, by omega, by omega, by omega, ?_⟩, ?_⟩
          · rfl
          · rfl
          · go_num
          · rw [show (a * 16 + ((c.toNat : Int) - 48)).toNat = a.toNat * 16 + (c.toNat - 48) by omega]
            exact HF
          · simp [intOf]; omega
      · have hcases := hcases.resolve_left hdig
        have hnd : c.toNat < 48 ∨ 57 < c.toNat := by omega
        clear hdig
        rcases hcases with ⟨e0, e1, hx⟩ | ⟨hlo, hx⟩
        · -- a letter that is a digit
          have h95 : ((c.toNat : Int) == 95) = false := by
            rw [beq_eq_false_iff_ne]; intro h; rw [h, lowv_95] at e1; omega
          by_cases hov : 255 < a.toNat * 16 + (lowv c.toNat - 87).toNat
          · have hF : RES = none := by rw [hdec]; simp only [hexU, hx]; rw [if_pos hov]
            have iov : 255 < a * 16 + (lowv c.toNat - 97 + 10) := by omega
            have HF := Lib.hid hF
            clear hF hdec hov hx
            rcases hnd with hnd | hnd
            all_goals
              go_wp2_with (go_at_call 67; refine (slower_calls _ _).mono ?_; rintro e w' ⟨rfl, rfl⟩)
              go_ret2
              rw [HF.out]
              exact ⟨PuInner.none (.inl rfl) rfl, rfl⟩
          · have hF : RES = hexU 255 (bs.drop (k + 1)) (a.toNat * 16 + (lowv c.toNat - 87).toNat) := by rw [hdec]; simp only [hexU, hx]; rw [if_neg hov]
            have HF := Lib.hid hF
            have iov : a * 16 + (lowv c.toNat - 97 + 10) ≤ 255 := by omega
            clear hF hdec hov hx
            rcases hnd with hnd | hnd
            all_goals
              go_wp2_with (go_at_call 67; refine (slower_calls _ _).mono ?_; rintro e w' ⟨rfl, rfl⟩)
              refine ⟨⟨k + 1, a * 16 + (lowv c.toNat - 97 + 10), ?_, ?_, ?_, by omega, by omega, by omega, ?_⟩, ?_⟩
              · rfl
              · rfl
              · go_num
              · rw [show (a * 16 + (lowv c.toNat - 97 + 10)).toNat = a.toNat * 16 + (lowv c.toNat - 87).toNat by omega]
                exact HF
              · simp [intOf]; omega
        · have hF : RES = none := by rw [hdec]; simp only [hexU, hx]
          have HF := Lib.hid hF
          clear hF hdec hx
          by_cases h95 : (c.toNat : Int) = 95
          · rw [h95] at hc
            have hl : 102 < lowv 95 := by rw [lowv_95]; decide
            have hl2 : lowv 95 ≤ 255 := by rw [lowv_95]; decide
            clear l0 l1 hnd hlo h95 hc256
            go_wp2_with (go_at_call 67; refine (slower_calls _ _).mono ?_; rintro e w' ⟨rfl, rfl⟩)
            all_goals go_ret2
            all_goals rw [HF.out]
            all_goals exact ⟨PuInner.none (.inr rfl) rfl, rfl⟩
          have h95 : ((c.toNat : Int) == 95) = false := by rw [beq_eq_false_iff_ne]; exact h95
          rcases hnd with hnd | hnd <;> rcases hlo with hlo | hlo
          all_goals
            go_wp2_with (go_at_call 67; refine (slower_calls _ _).mono ?_; rintro e w' ⟨rfl, rfl⟩)
            all_goals go_ret2
            all_goals rw [HF.out]
            all_goals exact ⟨PuInner.none (.inr rfl) rfl, rfl⟩
    · have hkk : k = t.size := by omega
      subst hkk
      have hF : RES = some a.toNat := by rw [hdec.out, List.drop_eq_nil_of_le (by omega)]; rfl
      have HF := Lib.hid hF
      clear hF hdec
      go_wp2
      go_ret2
      rw [HF.out]
      exact ⟨PuInner.some (by rw [Int.toNat_of_nonneg a0]; rfl), rfl⟩

theorem parseUint8_calls (t : ByteArray) (hne : t.size ≠ 0) (hmax : t.size ≤ 281474976710656) (w : World) (hg : Glb w) :
    Calls Tryz.prog 29 #[.string t, .int .i64 16, .int .i64 8] w fun e w' => PuOut (hexU 255 t.data.toList 0) e ∧ Below w.heap.size w w' := by
  have HG := Lib.hid hg; clear hg
  have hm2 : t.size ≤ 9223372036854775806 := by omega
  have hB : Below w.heap.size w (Lib.bytesWorld w 5 t) := by
    have h := ((Below.refl w.heap.size w).drew).alloc (o := .cells (Lib.bytesCells w 5 t) 5) (Nat.le_refl _)
    exact h.trans ⟨rfl, rfl, rfl, by simp [Lib.bytesWorld, World.freeze], fun k hk => by simp [Lib.bytesWorld, World.freeze, Array.getElem?_modify]; intro e; omega⟩
  have HB := Lib.hid hB; clear hB
  cases hr : hexU 255 t.data.toList 0 with
  | some n =>
    have HR := Lib.hid hr; clear hr
    go_enter Tryz.func29, Tryz.ntmps29
    go_wp2_with fail
    refine (parseUint_inner8 t hne hm2 w).mono ?_
    rintro e w1 ⟨hp, hw⟩
    have he := hp.1 n HR.out
    subst he
    have HW := Lib.hid hw; clear hw hp hm2 hmax hne
    go_wp2
    go_ret2
    exact ⟨⟨fun m hm => (by injection hm with hm; subst hm; rfl), fun h => by cases h⟩, by rw [HW.out]; exact HB.out⟩
  | none =>
    have HR := Lib.hid hr; clear hr
    go_enter Tryz.func29, Tryz.ntmps29
    go_wp2_with fail
    refine (parseUint_inner8 t hne hm2 w).mono ?_
    rintro e w1 ⟨hp, hw⟩
    obtain ⟨x, k, hk, rfl⟩ := hp.2 HR.out
    have hG1 : Glb w1 := by rw [hw]; exact HG.out.below HB.out
    have hB1 : Below w.heap.size w w1 := by rw [hw]; exact HB.out
    have HG1 := Lib.hid hG1; have HB1 := Lib.hid hB1
    have HM := Lib.hid hmax
    clear hw hp hG1 hB1 hm2 hmax hne
    rcases hk with rfl | rfl
    · go_wp2_with fail
      obtain ⟨v, hv, hev⟩ := HG1.out.2.2
      refine (Tryz.strconv_toError_range _ t _ _ v w1 HM.out hv hev).mono ?_
      rintro e w2 ⟨N, rfl, _, _, hb2⟩
      have HB2 := Lib.hid hb2
      clear hb2 hv hev
      go_wp2
      go_ret2
      exact ⟨⟨fun m hm => (by cases hm), fun _ => ⟨_, _, _, rfl⟩⟩, HB1.out.trans (HB2.out.mono HB1.out.size)⟩
    · go_wp2_with fail
      obtain ⟨v, hv, hev⟩ := HG1.out.2.1
      refine (Tryz.strconv_toError_syntax _ t _ _ v w1 HM.out hv hev).mono ?_
      rintro e w2 ⟨N, rfl, _, _, hb2⟩
      have HB2 := Lib.hid hb2
      clear hb2 hv hev
      go_wp2
      go_ret2
      exact ⟨⟨fun m hm => (by cases hm), fun _ => ⟨_, _, _, rfl⟩⟩, HB1.out.trans (HB2.out.mono HB1.out.size)⟩

end Go.Proofs.YthdmdafhldicmaaGreatDoor
