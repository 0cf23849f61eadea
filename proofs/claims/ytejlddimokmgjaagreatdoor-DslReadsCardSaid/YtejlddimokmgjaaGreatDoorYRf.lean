/- WALKS: escapes, as the document's answer reads them. -/
import Derived.Test.YtejlddimokmgjaaGreatDoorYRe
import Derived.Test.YtejlddimokmgjaaGreatDoorYRb
import Derived.Test.YtejlddimokmgjaaGreatDoorKe
namespace Go.Proofs.YtejlddimokmgjaaGreatDoor
open Go.RowKit

/-- A hexadecimal digit; below 0: none. -/
def hexI (c : UInt8) : Int := match Cx.hexv c with | some d => (d : Int) | none => -1

theorem hexI_eq (c : UInt8) : hexI c = if 48 ≤ c.toNat ∧ c.toNat ≤ 57 then (c.toNat : Int) - 48 else if 97 ≤ c.toNat ∧ c.toNat ≤ 102 then (c.toNat : Int) - 87 else if 65 ≤ c.toNat ∧ c.toNat ≤ 70 then (c.toNat : Int) - 55 else -1 := by
  unfold hexI Cx.hexv
  by_cases h1 : 48 ≤ c.toNat ∧ c.toNat ≤ 57
  · rw [if_pos h1, if_pos h1]; simp only; omega
  rw [if_neg h1, if_neg h1]
  by_cases h2 : 97 ≤ c.toNat ∧ c.toNat ≤ 102
  · rw [if_pos h2, if_pos h2]; simp only; omega
  rw [if_neg h2, if_neg h2]
  by_cases h3 : 65 ≤ c.toNat ∧ c.toNat ≤ 70
  · rw [if_pos h3, if_pos h3]; simp only; omega
  rw [if_neg h3, if_neg h3]
set_option maxRecDepth 100000 in
theorem six_calls (c : UInt8) (w : World) : Calls Tryz.prog 198 #[.int .u8 c.toNat] w fun e w' => e = .returned (.int .i64 (hexI c)) ∧ w' = w := by
  have hc := c.toNat_lt
  have hdi : Cx.isDig c = decide (48 ≤ c.toNat ∧ c.toNat ≤ 57) := by
    simp only [Cx.isDig, UInt8.le_iff_toNat_le, Bool.decide_and]; rfl
  have HD := Lib.hid hdi
  clear hdi
  go_enter Tryz.func198, Tryz.ntmps198
  go_wp2_with (go_at_call 124; refine (digit2_calls c _).mono ?_; rintro e w' ⟨rfl, hw'⟩; subst hw'; rw [HD.out])
  all_goals go_ret
  all_goals
    refine ⟨ret_int ?_, rfl⟩
    rw [hexI_eq]
    repeat' split
    all_goals omega

/-- What hexadecimal digits say. -/
def hexP (l : List UInt8) : Option Nat := l.foldl (fun o c => o.bind fun v => (Cx.hexv c).map fun d => v * 16 + d) (some 0)
theorem hexP_snoc (l : List UInt8) (c : UInt8) : hexP (l ++ [c]) = (hexP l).bind fun v => (Cx.hexv c).map fun d => v * 16 + d := by
  unfold hexP; rw [List.foldl_append]; rfl
theorem hexP_none : ∀ (l : List UInt8), l.foldl (fun (o : Option Nat) c => o.bind fun v => (Cx.hexv c).map fun d => v * 16 + d) none = none
  | [] => rfl
  | _ :: l => hexP_none l
theorem hexP_app (a b : List UInt8) (h : hexP a = none) : hexP (a ++ b) = none := by
  unfold hexP at h ⊢; rw [List.foldl_append, h]; exact hexP_none b
theorem hex4_P (a b c d : UInt8) : Cx.hex4 [a, b, c, d] = hexP [a, b, c, d] := by
  unfold Cx.hex4 hexP
  simp only [List.foldl]
  cases Cx.hexv a <;> cases Cx.hexv b <;> cases Cx.hexv c <;> cases Cx.hexv d <;> simp
theorem unitI_of {s : List UInt8} {p : Nat} {a b c d : UInt8} {r : List UInt8} (h : s.drop p = 92 :: 117 :: a :: b :: c :: d :: r) : unitI s p = match hexP [a, b, c, d] with | some v => (v : Int) | none => -1 := by
  unfold unitI Cx.unit
  rw [h]; simp only
  rw [hex4_P]
  cases hexP [a, b, c, d] <;> rfl
theorem unitI_no {s : List UInt8} {p : Nat} (h : s.length < p + 6 ∨ s[p]? ≠ some 92 ∨ s[p + 1]? ≠ some 117) : unitI s p = -1 := by
  unfold unitI Cx.unit
  split
  · rename_i v heq
    split at heq
    · rename_i a b c d r hd
      exfalso
      have hl := congrArg List.length hd
      simp at hl
      have h0 : s[p]? = some 92 := by rw [← List.head?_drop, hd]; rfl
      have h1 : s[p + 1]? = some 117 := by
        have : (s.drop p)[1]? = some 117 := by rw [hd]; rfl
        rw [List.getElem?_drop] at this; exact this
      rcases h with h | h | h
      · omega
      · exact h h0
      · exact h h1
    · cases heq
  · rfl

set_option maxRecDepth 100000 in
set_option maxHeartbeats 1000000 in
theorem unit2_calls (s : ByteArray) (i p : Nat) (m y q : Int) (b : Nat) (w : World) (h : R2 b s i m y q w) (hp : p ≤ 200000) (hs : s.size ≤ 100000) :
    Calls Tryz.prog 184 #[.pointer (some ⟨b, 0, none⟩), .int .i64 p] w fun e w' => e = .returned (.int .i64 (unitI s.data.toList p)) ∧ w' = w := by
  have q0 := h.c0
  clear h
  obtain ⟨U, hU⟩ : ∃ U, U = unitI s.data.toList p := ⟨_, rfl⟩
  rw [← hU]
  have hsl : s.data.toList.length = s.size := rfl
  by_cases hlen : s.size < p + 6
  · have hno := unitI_no (s := s.data.toList) (p := p) (.inl (by omega))
    have HN := Lib.hid (hU.trans hno)
    have hl : (s.size : Int) < (p : Int) + 6 := by omega
    clear hU hno
    go_enter Tryz.func184, Tryz.ntmps184
    go_wp2_with fail
    go_ret
    rw [HN.out]
    exact ⟨rfl, rfl⟩
  have hl : ¬ (s.size : Int) < (p : Int) + 6 := by omega
  have hgp : ∀ k, ∀ h : k < s.size, s.data.toList[k]? = some s[k] := fun k h => List.getElem?_eq_getElem (show k < s.data.toList.length from h)
  by_cases h92 : s[p]'(by omega) = 92
  rotate_left
  · have hno := unitI_no (s := s.data.toList) (p := p) (.inr (.inl (by
      rw [hgp p (by omega)]; simpa using h92)))
    have HN := Lib.hid (hU.trans hno)
    have hne : (((s[p]'(by omega)).toNat : Int) != 92) = true := by rw [bne_iff_ne]; intro e; exact h92 (UInt8.toNat_inj.1 (by simp; omega))
    clear hU hno hgp h92
    go_enter Tryz.func184, Tryz.ntmps184
    go_wp2_with fail
    go_ret
    rw [HN.out]
    exact ⟨rfl, rfl⟩
  have hn1 : (((s[p]'(by omega)).toNat : Int) != 92) = false := by rw [h92]; rfl
  by_cases h117 : s[p + 1]'(by omega) = 117
  rotate_left
  · have hno := unitI_no (s := s.data.toList) (p := p) (.inr (.inr (by
      rw [hgp (p + 1) (by omega)]; simpa using h117)))
    have HN := Lib.hid (hU.trans hno)
    have hne : (((s[p + 1]'(by omega)).toNat : Int) != 117) = true := by rw [bne_iff_ne]; intro e; exact h117 (UInt8.toNat_inj.1 (by simp; omega))
    clear hU hno hgp h117 h92
    go_enter Tryz.func184, Tryz.ntmps184
    go_wp2_with fail
    go_ret
    rw [HN.out]
    exact ⟨rfl, rfl⟩
  have hn2 : (((s[p + 1]'(by omega)).toNat : Int) != 117) = false := by rw [h117]; rfl
  obtain ⟨D, hD⟩ : ∃ D : List UInt8, D = (s.data.toList.drop (p + 2)).take 4 := ⟨_, rfl⟩
  have hDl : D.length = 4 := by rw [hD]; simp; omega
  have hDk : ∀ k, k < 4 → ∀ h : p + (k + 2) < s.size, D[k]? = some s[p + (k + 2)] := fun k hk h => by
    rw [hD, List.getElem?_take, if_pos hk, List.getElem?_drop, ← hgp (p + (k + 2)) h]; congr 1; omega
  have hUD : U = match hexP D with | some v => (v : Int) | none => -1 := by
    have e0 := hgp p (by omega); have e1 := hgp (p + 1) (by omega)
    rw [hU]
    have hdr : s.data.toList.drop p = 92 :: 117 :: (D ++ s.data.toList.drop (p + 6)) := by
      rw [List.drop_eq_getElem_cons (show p < s.data.toList.length by omega), List.drop_eq_getElem_cons (show p + 1 < s.data.toList.length by omega)]
      rw [List.getElem?_eq_getElem (by omega)] at e0 e1
      rw [Option.some.inj e0, Option.some.inj e1, h92, h117, hD]
      congr 2
      rw [show p + 1 + 1 = p + 2 by omega, show s.data.toList.drop (p + 6) = (s.data.toList.drop (p + 2)).drop 4 by rw [List.drop_drop]]
      exact (List.take_append_drop 4 _).symm
    clear hD
    match D, hDl, hdr with
    | [x0, x1, x2, x3], _, hdr => exact unitI_of hdr
  have HUD := Lib.hid hUD; have HDK := Lib.hid hDk; have HDL := Lib.hid hDl
  clear hU hgp h92 h117 hD hDl hDk hUD
  go_enter Tryz.func184, Tryz.ntmps184
  go_wp2_with fail
  go_loop [5, 6] (fun vv vk => ∃ (v k : Nat), vv = .int .i64 v ∧ vk = .int .i64 (k + 2 : Nat) ∧ k ≤ 4 ∧ v < 16 ^ k ∧ Hid (hexP (D.take k) = some v)) (fun _ vk => 6 - (intOf vk).toNat)
  case atStart => exact ⟨0, 0, rfl, rfl, by omega, by decide, Lib.hid rfl⟩
  case round =>
    obtain ⟨v, k, rfl, rfl, hk, hv, HP⟩ := hrel
    rcases Nat.lt_or_ge k 4 with hlt | hge
    · have hjl : p + (k + 2) < s.size := by omega
      have hdk : (D.take (k + 1)) = D.take k ++ [s[p + (k + 2)]] := by
        rw [List.take_add_one, HDK.out k hlt hjl]; rfl
      have hx := hexP_snoc (D.take k) s[p + (k + 2)]
      rw [← hdk, HP.out] at hx
      have HX := Lib.hid hx
      have hv4 : v ≤ 4095 := by
        have : 16 ^ k ≤ 16 ^ 3 := Nat.pow_le_pow_right (by omega) (by omega)
        omega
      have HV := Lib.hid hv
      clear hv
      clear hdk hx
      cases hh : Cx.hexv s[p + (k + 2)] with
      | none =>
        have h6 : hexI s[p + (k + 2)] = -1 := by unfold hexI; rw [hh]
        have hn : hexP (D.take (k + 1)) = none := by rw [HX.out, hh]; rfl
        have hU1 : U = -1 := by
          have := hexP_app _ (D.drop (k + 1)) hn
          rw [List.take_append_drop] at this
          rw [HUD.out, this]
        have HU1 := Lib.hid hU1
        clear hh hn hU1
        go_wp2_with (go_at_call 198; refine (six_calls _ _).mono ?_; rintro e w' ⟨rfl, hw'⟩; subst hw'; rw [h6])
        go_ret
        rw [HU1.out]
        exact ⟨rfl, rfl⟩
      | some d =>
        have h6 : hexI s[p + (k + 2)] = (d : Int) := by unfold hexI; rw [hh]
        have h15 := Cx.hexv_lt hh
        have hn : hexP (D.take (k + 1)) = some (v * 16 + d) := by rw [HX.out, hh]; rfl
        have HN := Lib.hid hn
        clear hh hn
        go_wp2_with (go_at_call 198; refine (six_calls _ _).mono ?_; rintro e w' ⟨rfl, hw'⟩; subst hw'; rw [h6])
        go_round
        case rel =>
          refine ⟨v * 16 + d, k + 1, ?_, by go_num, by omega, ?_, HN⟩
          · congr 1; omega
          · have := HV.out; rw [Nat.pow_succ]; omega
        case measure => simp [intOf]; omega
    · have hk4 : k = 4 := by omega
      subst hk4
      have hU1 : U = (v : Int) := by
        have := HP.out
        rw [List.take_of_length_le (by rw [HDL.out]; omega)] at this
        rw [HUD.out, this]
      have HU1 := Lib.hid hU1
      clear hU1
      go_wp2_with fail
      go_ret
      rw [HU1.out]
      exact ⟨rfl, rfl⟩

theorem esc_bind (s : List UInt8) (i : Nat) : (s[i + 1]?).bind Cx.simple = Cx.simple (Cx.peek s (i + 1)) := by
  unfold Cx.peek List.getD
  cases s[i + 1]? <;> rfl
theorem unitI_some {s : List UInt8} {p v : Nat} (h : Cx.unit s p = some v) : unitI s p = v := by unfold unitI; rw [h]
theorem unitI_none {s : List UInt8} {p : Nat} (h : Cx.unit s p = none) : unitI s p = -1 := by unfold unitI; rw [h]
theorem escape_unit' (s : List UInt8) (i : Nat) (h : Cx.simple (Cx.peek s (i + 1)) = none) : Cx.escape s i = match Cx.unit s i with
    | none => .error (7, i)
    | some v =>
      if 0xD800 ≤ v ∧ v < 0xDC00 then
        match Cx.unit s (i + 6) with
        | none => .error (7, i)
        | some low => if 0xDC00 ≤ low ∧ low < 0xE000 then .ok (Cx.enc (0x10000 + (v - 0xD800) * 1024 + (low - 0xDC00)), i + 12) else .error (7, i)
      else if 0xD800 ≤ v ∧ v < 0xE000 then .error (7, i) else .ok (Cx.enc v, i + 6) := by
  unfold Cx.escape
  rw [esc_bind, h]
  rfl
theorem escape_simple' (s : List UInt8) (i : Nat) (x : UInt8) (h : Cx.simple (Cx.peek s (i + 1)) = some x) : Cx.escape s i = .ok ([x], i + 2) := by
  unfold Cx.escape
  rw [esc_bind, h]

set_option maxRecDepth 100000 in
set_option maxHeartbeats 4000000 in
theorem escape2_calls (s : ByteArray) (i : Nat) (m : Int) (b : Nat) (w : World) (h : R2 b s i m 0 0 w) (hi : i < s.size) (hs : s.size ≤ 100000) :
    Calls Tryz.prog 161 #[.pointer (some ⟨b, 0, none⟩)] w (RG (Cx.escape s.data.toList i) (Text2 b s m) Str b s w) := by
  have q0 := h.c0; have q1 := h.c1; have qf := h.fr 1
  obtain ⟨RES, hRES⟩ : ∃ RES, RES = Cx.escape s.data.toList i := ⟨_, rfl⟩
  rw [← hRES]
  obtain ⟨c, hc⟩ : ∃ c, c = Cx.peek s.data.toList (i + 1) := ⟨_, rfl⟩
  have H := Lib.hid h; have HR := Lib.hid hRES; have HC := Lib.hid hc
  clear h hRES
  go_enter Tryz.func161, Tryz.ntmps161
  go_upto_if 22 with fail
  go_cut [4] (fun z wr => z = .int .u8 c.toNat ∧ wr = w)
  case first =>
    by_cases hlt : i + 1 < s.size
    · have hlI : (i : Int) + 1 < (s.size : Int) := by omega
      have he : (((s[i + 1]'hlt).toNat : Int)) = (c.toNat : Int) := by rw [hc, peek_size hlt]
      clear hc
      go_wp2_with fail
      go_meet
      case rel => exact ⟨rfl, rfl⟩
    · have hlI : ¬ (i : Int) + 1 < (s.size : Int) := by omega
      have he : c = 0 := by rw [hc]; exact Cx.peek_end (by show s.size ≤ i + 1; omega)
      subst he
      clear hc
      go_wp2_with fail
      go_meet
      case rel => exact ⟨rfl, rfl⟩
  case rest =>
    obtain ⟨rfl, rfl⟩ := hcut
    clear hc
    go_wp2_with fail
    go_loop [6] (fun z => ∃ k : Nat, z = .int .i64 k ∧ k ≤ 8 ∧ Hid (∀ j, j < k → ([34, 92, 47, 98, 102, 110, 114, 116] : List UInt8)[j]? ≠ some c)) (fun z => 8 - (intOf z).toNat)
    case atStart => exact ⟨0, rfl, by omega, Lib.hid (fun j h => by omega)⟩
    case round =>
      obtain ⟨k, rfl, hk, HK⟩ := hrel
      have hcases : k = 0 ∨ k = 1 ∨ k = 2 ∨ k = 3 ∨ k = 4 ∨ k = 5 ∨ k = 6 ∨ k = 7 ∨ k = 8 := by omega
      rcases hcases with rfl | rfl | rfl | rfl | rfl | rfl | rfl | rfl | rfl
      · have hidx : (((⟨#[34, 92, 47, 98, 102, 110, 114, 116]⟩ : ByteArray)[0]'(by decide)).toNat : Int) = 34 := by decide
        by_cases he : c = 34
        · have hes := escape_simple' s.data.toList i 34 (by rw [← HC.out, he]; rfl)
          have HES := Lib.hid (HR.out.trans hes)
          subst he
          clear hes HK
          go_wp2_with fail
          go_ret
          exact RG.ok HES.out ((Mv.refl b _).set (.inl rfl) _) ⟨ret_str (show (⟨#[34, 92, 47, 8, 12, 10, 13, 9]⟩ : ByteArray).extract 0 1 = ⟨#[34]⟩ by decide), H.out.set1 _⟩
        · have hne : (((34 : UInt8).toNat : Int) == (c.toNat : Int)) = false := u8ne (Ne.symm he)
          have hne2 : ((34 : Int) == (c.toNat : Int)) = false := hne
          have HE := Lib.hid he
          clear he hne
          go_wp2_with fail
          go_round
          case rel => exact ⟨0 + 1, by go_num, by omega, Lib.hid (fun j h => by rcases Nat.lt_or_ge j 0 with g | g; exact HK.out j g; rw [show j = 0 by omega]; simpa using Ne.symm HE.out)⟩
          case measure => simp [intOf]
      · have hidx : (((⟨#[34, 92, 47, 98, 102, 110, 114, 116]⟩ : ByteArray)[1]'(by decide)).toNat : Int) = 92 := by decide
        by_cases he : c = 92
        · have hes := escape_simple' s.data.toList i 92 (by rw [← HC.out, he]; rfl)
          have HES := Lib.hid (HR.out.trans hes)
          subst he
          clear hes HK
          go_wp2_with fail
          go_ret
          exact RG.ok HES.out ((Mv.refl b _).set (.inl rfl) _) ⟨ret_str (show (⟨#[34, 92, 47, 8, 12, 10, 13, 9]⟩ : ByteArray).extract 1 2 = ⟨#[92]⟩ by decide), H.out.set1 _⟩
        · have hne : (((92 : UInt8).toNat : Int) == (c.toNat : Int)) = false := u8ne (Ne.symm he)
          have hne2 : ((92 : Int) == (c.toNat : Int)) = false := hne
          have HE := Lib.hid he
          clear he hne
          go_wp2_with fail
          go_round
          case rel => exact ⟨1 + 1, by go_num, by omega, Lib.hid (fun j h => by rcases Nat.lt_or_ge j 1 with g | g; exact HK.out j g; rw [show j = 1 by omega]; simpa using Ne.symm HE.out)⟩
          case measure => simp [intOf]
      · have hidx : (((⟨#[34, 92, 47, 98, 102, 110, 114, 116]⟩ : ByteArray)[2]'(by decide)).toNat : Int) = 47 := by decide
        by_cases he : c = 47
        · have hes := escape_simple' s.data.toList i 47 (by rw [← HC.out, he]; rfl)
          have HES := Lib.hid (HR.out.trans hes)
          subst he
          clear hes HK
          go_wp2_with fail
          go_ret
          exact RG.ok HES.out ((Mv.refl b _).set (.inl rfl) _) ⟨ret_str (show (⟨#[34, 92, 47, 8, 12, 10, 13, 9]⟩ : ByteArray).extract 2 3 = ⟨#[47]⟩ by decide), H.out.set1 _⟩
        · have hne : (((47 : UInt8).toNat : Int) == (c.toNat : Int)) = false := u8ne (Ne.symm he)
          have hne2 : ((47 : Int) == (c.toNat : Int)) = false := hne
          have HE := Lib.hid he
          clear he hne
          go_wp2_with fail
          go_round
          case rel => exact ⟨2 + 1, by go_num, by omega, Lib.hid (fun j h => by rcases Nat.lt_or_ge j 2 with g | g; exact HK.out j g; rw [show j = 2 by omega]; simpa using Ne.symm HE.out)⟩
          case measure => simp [intOf]
      · have hidx : (((⟨#[34, 92, 47, 98, 102, 110, 114, 116]⟩ : ByteArray)[3]'(by decide)).toNat : Int) = 98 := by decide
        by_cases he : c = 98
        · have hes := escape_simple' s.data.toList i 8 (by rw [← HC.out, he]; rfl)
          have HES := Lib.hid (HR.out.trans hes)
          subst he
          clear hes HK
          go_wp2_with fail
          go_ret
          exact RG.ok HES.out ((Mv.refl b _).set (.inl rfl) _) ⟨ret_str (show (⟨#[34, 92, 47, 8, 12, 10, 13, 9]⟩ : ByteArray).extract 3 4 = ⟨#[8]⟩ by decide), H.out.set1 _⟩
        · have hne : (((98 : UInt8).toNat : Int) == (c.toNat : Int)) = false := u8ne (Ne.symm he)
          have hne2 : ((98 : Int) == (c.toNat : Int)) = false := hne
          have HE := Lib.hid he
          clear he hne
          go_wp2_with fail
          go_round
          case rel => exact ⟨3 + 1, by go_num, by omega, Lib.hid (fun j h => by rcases Nat.lt_or_ge j 3 with g | g; exact HK.out j g; rw [show j = 3 by omega]; simpa using Ne.symm HE.out)⟩
          case measure => simp [intOf]
      · have hidx : (((⟨#[34, 92, 47, 98, 102, 110, 114, 116]⟩ : ByteArray)[4]'(by decide)).toNat : Int) = 102 := by decide
        by_cases he : c = 102
        · have hes := escape_simple' s.data.toList i 12 (by rw [← HC.out, he]; rfl)
          have HES := Lib.hid (HR.out.trans hes)
          subst he
          clear hes HK
          go_wp2_with fail
          go_ret
          exact RG.ok HES.out ((Mv.refl b _).set (.inl rfl) _) ⟨ret_str (show (⟨#[34, 92, 47, 8, 12, 10, 13, 9]⟩ : ByteArray).extract 4 5 = ⟨#[12]⟩ by decide), H.out.set1 _⟩
        · have hne : (((102 : UInt8).toNat : Int) == (c.toNat : Int)) = false := u8ne (Ne.symm he)
          have hne2 : ((102 : Int) == (c.toNat : Int)) = false := hne
          have HE := Lib.hid he
          clear he hne
          go_wp2_with fail
          go_round
          case rel => exact ⟨4 + 1, by go_num, by omega, Lib.hid (fun j h => by rcases Nat.lt_or_ge j 4 with g | g; exact HK.out j g; rw [show j = 4 by omega]; simpa using Ne.symm HE.out)⟩
          case measure => simp [intOf]
      · have hidx : (((⟨#[34, 92, 47, 98, 102, 110, 114, 116]⟩ : ByteArray)[5]'(by decide)).toNat : Int) = 110 := by decide
        by_cases he : c = 110
        · have hes := escape_simple' s.data.toList i 10 (by rw [← HC.out, he]; rfl)
          have HES := Lib.hid (HR.out.trans hes)
          subst he
          clear hes HK
          go_wp2_with fail
          go_ret
          exact RG.ok HES.out ((Mv.refl b _).set (.inl rfl) _) ⟨ret_str (show (⟨#[34, 92, 47, 8, 12, 10, 13, 9]⟩ : ByteArray).extract 5 6 = ⟨#[10]⟩ by decide), H.out.set1 _⟩
        · have hne : (((110 : UInt8).toNat : Int) == (c.toNat : Int)) = false := u8ne (Ne.symm he)
          have hne2 : ((110 : Int) == (c.toNat : Int)) = false := hne
          have HE := Lib.hid he
          clear he hne
          go_wp2_with fail
          go_round
          case rel => exact ⟨5 + 1, by go_num, by omega, Lib.hid (fun j h => by rcases Nat.lt_or_ge j 5 with g | g; exact HK.out j g; rw [show j = 5 by omega]; simpa using Ne.symm HE.out)⟩
          case measure => simp [intOf]
      · have hidx : (((⟨#[34, 92, 47, 98, 102, 110, 114, 116]⟩ : ByteArray)[6]'(by decide)).toNat : Int) = 114 := by decide
        by_cases he : c = 114
        · have hes := escape_simple' s.data.toList i 13 (by rw [← HC.out, he]; rfl)
          have HES := Lib.hid (HR.out.trans hes)
          subst he
          clear hes HK
          go_wp2_with fail
          go_ret
          exact RG.ok HES.out ((Mv.refl b _).set (.inl rfl) _) ⟨ret_str (show (⟨#[34, 92, 47, 8, 12, 10, 13, 9]⟩ : ByteArray).extract 6 7 = ⟨#[13]⟩ by decide), H.out.set1 _⟩
        · have hne : (((114 : UInt8).toNat : Int) == (c.toNat : Int)) = false := u8ne (Ne.symm he)
          have hne2 : ((114 : Int) == (c.toNat : Int)) = false := hne
          have HE := Lib.hid he
          clear he hne
          go_wp2_with fail
          go_round
          case rel => exact ⟨6 + 1, by go_num, by omega, Lib.hid (fun j h => by rcases Nat.lt_or_ge j 6 with g | g; exact HK.out j g; rw [show j = 6 by omega]; simpa using Ne.symm HE.out)⟩
          case measure => simp [intOf]
      · have hidx : (((⟨#[34, 92, 47, 98, 102, 110, 114, 116]⟩ : ByteArray)[7]'(by decide)).toNat : Int) = 116 := by decide
        by_cases he : c = 116
        · have hes := escape_simple' s.data.toList i 9 (by rw [← HC.out, he]; rfl)
          have HES := Lib.hid (HR.out.trans hes)
          subst he
          clear hes HK
          go_wp2_with fail
          go_ret
          exact RG.ok HES.out ((Mv.refl b _).set (.inl rfl) _) ⟨ret_str (show (⟨#[34, 92, 47, 8, 12, 10, 13, 9]⟩ : ByteArray).extract 7 8 = ⟨#[9]⟩ by decide), H.out.set1 _⟩
        · have hne : (((116 : UInt8).toNat : Int) == (c.toNat : Int)) = false := u8ne (Ne.symm he)
          have hne2 : ((116 : Int) == (c.toNat : Int)) = false := hne
          have HE := Lib.hid he
          clear he hne
          go_wp2_with fail
          go_round
          case rel => exact ⟨7 + 1, by go_num, by omega, Lib.hid (fun j h => by rcases Nat.lt_or_ge j 7 with g | g; exact HK.out j g; rw [show j = 7 by omega]; simpa using Ne.symm HE.out)⟩
          case measure => simp [intOf]
      · have hsn : Cx.simple c = none := by
          have h0 := HK.out 0 (by omega); have h1 := HK.out 1 (by omega); have h2 := HK.out 2 (by omega); have h3 := HK.out 3 (by omega)
          have h4 := HK.out 4 (by omega); have h5 := HK.out 5 (by omega); have h6 := HK.out 6 (by omega); have h7 := HK.out 7 (by omega)
          simp at h0 h1 h2 h3 h4 h5 h6 h7
          unfold Cx.simple
          rw [if_neg (Ne.symm h0), if_neg (Ne.symm h1), if_neg (Ne.symm h2), if_neg (Ne.symm h3), if_neg (Ne.symm h4), if_neg (Ne.symm h5), if_neg (Ne.symm h6), if_neg (Ne.symm h7)]
        have hru := escape_unit' s.data.toList i (by rw [← HC.out]; exact hsn)
        have HRU := Lib.hid (HR.out.trans hru)
        clear hsn hru HK
        cases hu : Cx.unit s.data.toList i with
        | none =>
          have h1 := unitI_none hu
          have hr := HRU.out
          rw [hu] at hr
          have HE := Lib.hid hr
          have his : Cx.isRune (-1) = false := by decide
          clear hu hr HRU
          go_wp2_with fail
          refine (show Calls Tryz.prog 184 #[.pointer (some ⟨b, 0, none⟩), .int .i64 i] _ _ from unit2_calls s i i m 0 0 b _ H.out (by omega) hs).mono ?_
          rintro e w' ⟨rfl, hw'⟩
          subst hw'
          rw [h1]
          go_wp2_with fail
          refine (is10_calls _ _).mono ?_
          rintro e w' ⟨rfl, hw'⟩
          subst hw'
          rw [his]
          go_wp2_with fail
          refine (fail_calls s i m 0 7 i b _ H.out).mono ?_
          rintro e w' ⟨rfl, k1, k2⟩
          go_wp2_with fail
          go_ret
          exact RG.err HE.out k2 rfl (show (7 : Nat) ≠ 0 by decide) (Nat.le_of_lt hi) k1
        | some v =>
          obtain ⟨V, hV⟩ : ∃ V : Int, V = (v : Int) := ⟨_, rfl⟩
          have h1 : unitI s.data.toList i = V := (unitI_some hu).trans hV.symm
          have HV := Lib.hid hV
          have hv16 := (Cx.unit_ok hu).2
          have hr := HRU.out
          rw [hu] at hr
          simp only at hr
          clear hu HRU
          by_cases hs1 : 55296 ≤ v ∧ v < 56320
          · rw [if_pos hs1] at hr
            have his : Cx.isRune V = false := by
              rw [hV]
              cases hx : Cx.isRune (v : Int) with
              | false => rfl
              | true => have := Cx.isRune_iff.1 hx; omega
            have i1 : (55296 : Int) ≤ V := by omega
            have i2 : V < 56320 := by omega
            cases hu2 : Cx.unit s.data.toList (i + 6) with
            | none =>
              have h2 := unitI_none hu2
              rw [hu2] at hr
              have HE := Lib.hid hr
              clear hu2 hr hV hv16 hs1
              go_wp2_with fail
              refine (show Calls Tryz.prog 184 #[.pointer (some ⟨b, 0, none⟩), .int .i64 i] _ _ from unit2_calls s i i m 0 0 b _ H.out (by omega) hs).mono ?_
              rintro e w' ⟨rfl, hw'⟩
              subst hw'
              rw [h1]
              go_wp2_with fail
              refine (show Calls Tryz.prog 184 #[.pointer (some ⟨b, 0, none⟩), .int .i64 ((i : Int) + 6)] _ _ from unit2_calls s i (i + 6) m 0 0 b _ H.out (by omega) hs).mono ?_
              rintro e w' ⟨rfl, hw'⟩
              subst hw'
              rw [h2]
              go_wp2_with fail
              refine (is10_calls _ _).mono ?_
              rintro e w' ⟨rfl, hw'⟩
              subst hw'
              rw [his]
              go_wp2_with fail
              refine (fail_calls s i m 0 7 i b _ H.out).mono ?_
              rintro e w' ⟨rfl, k1, k2⟩
              go_wp2_with fail
              go_ret
              exact RG.err HE.out k2 rfl (show (7 : Nat) ≠ 0 by decide) (Nat.le_of_lt hi) k1
            | some low =>
              obtain ⟨L, hL⟩ : ∃ L : Int, L = (low : Int) := ⟨_, rfl⟩
              have h2 : unitI s.data.toList (i + 6) = L := (unitI_some hu2).trans hL.symm
              have hl16 := (Cx.unit_ok hu2).2
              have hl12 := (Cx.unit_ok hu2).1
              rw [hu2] at hr
              simp only at hr
              clear hu2
              by_cases hs2 : 56320 ≤ low ∧ low < 57344
              · rw [if_pos hs2] at hr
                have j1 : (56320 : Int) ≤ L := by omega
                have j2 : L < 57344 := by omega
                obtain ⟨x, hx⟩ : ∃ x : Nat, x = 65536 + (v - 55296) * 1024 + (low - 56320) := ⟨_, rfl⟩
                have hxI : 65536 + (V - 55296) * 1024 + L - 56320 = (x : Int) := by omega
                rw [← hx] at hr
                have hxl : x ≤ 1114111 := by omega
                have his2 : Cx.isRune (x : Int) = true := Cx.isRune_iff.2 (by omega)
                have HE := Lib.hid hr
                clear hr hx hV hL hv16 hl16 hs1 hs2
                go_wp2_with fail
                refine (show Calls Tryz.prog 184 #[.pointer (some ⟨b, 0, none⟩), .int .i64 i] _ _ from unit2_calls s i i m 0 0 b _ H.out (by omega) hs).mono ?_
                rintro e w' ⟨rfl, hw'⟩
                subst hw'
                rw [h1]
                go_wp2_with fail
                refine (show Calls Tryz.prog 184 #[.pointer (some ⟨b, 0, none⟩), .int .i64 ((i : Int) + 6)] _ _ from unit2_calls s i (i + 6) m 0 0 b _ H.out (by omega) hs).mono ?_
                rintro e w' ⟨rfl, hw'⟩
                subst hw'
                rw [h2]
                go_wp2_with fail
                refine (is10_calls _ _).mono ?_
                rintro e w' ⟨rfl, hw'⟩
                subst hw'
                rw [his2]
                go_wp2_with fail
                refine (show Calls Tryz.prog 111 #[.int .i64 (x : Int)] _ _ from bytes10_calls x (by omega) _).mono ?_
                rintro e w7 ⟨rfl, hb7⟩
                go_wp2_with fail
                go_ret
                have hr7 : R2 b s ((i + 12 : Nat) : Int) m 0 0 w7 := (show R2 b s ((i + 12 : Nat) : Int) m 0 0 _ from H.out.set1 _).below hb7
                exact RG.ok HE.out (((Mv.refl b _).set (.inl rfl) _).below hb7) ⟨rfl, hr7⟩
              · rw [if_neg hs2] at hr
                have HE := Lib.hid hr
                clear hr
                by_cases j1 : (56320 : Int) ≤ L
                · have j2 : (57344 : Int) ≤ L := by omega
                  clear hs2 hs1 hV hL hv16 hl16
                  go_wp2_with fail
                  refine (show Calls Tryz.prog 184 #[.pointer (some ⟨b, 0, none⟩), .int .i64 i] _ _ from unit2_calls s i i m 0 0 b _ H.out (by omega) hs).mono ?_
                  rintro e w' ⟨rfl, hw'⟩
                  subst hw'
                  rw [h1]
                  go_wp2_with fail
                  refine (show Calls Tryz.prog 184 #[.pointer (some ⟨b, 0, none⟩), .int .i64 ((i : Int) + 6)] _ _ from unit2_calls s i (i + 6) m 0 0 b _ H.out (by omega) hs).mono ?_
                  rintro e w' ⟨rfl, hw'⟩
                  subst hw'
                  rw [h2]
                  go_wp2_with fail
                  refine (is10_calls _ _).mono ?_
                  rintro e w' ⟨rfl, hw'⟩
                  subst hw'
                  rw [his]
                  go_wp2_with fail
                  refine (fail_calls s i m 0 7 i b _ H.out).mono ?_
                  rintro e w' ⟨rfl, k1, k2⟩
                  go_wp2_with fail
                  go_ret
                  exact RG.err HE.out k2 rfl (show (7 : Nat) ≠ 0 by decide) (Nat.le_of_lt hi) k1
                · have j1 : L < 56320 := by omega
                  clear hs2 hs1 hV hL hv16 hl16
                  go_wp2_with fail
                  refine (show Calls Tryz.prog 184 #[.pointer (some ⟨b, 0, none⟩), .int .i64 i] _ _ from unit2_calls s i i m 0 0 b _ H.out (by omega) hs).mono ?_
                  rintro e w' ⟨rfl, hw'⟩
                  subst hw'
                  rw [h1]
                  go_wp2_with fail
                  refine (show Calls Tryz.prog 184 #[.pointer (some ⟨b, 0, none⟩), .int .i64 ((i : Int) + 6)] _ _ from unit2_calls s i (i + 6) m 0 0 b _ H.out (by omega) hs).mono ?_
                  rintro e w' ⟨rfl, hw'⟩
                  subst hw'
                  rw [h2]
                  go_wp2_with fail
                  refine (is10_calls _ _).mono ?_
                  rintro e w' ⟨rfl, hw'⟩
                  subst hw'
                  rw [his]
                  go_wp2_with fail
                  refine (fail_calls s i m 0 7 i b _ H.out).mono ?_
                  rintro e w' ⟨rfl, k1, k2⟩
                  go_wp2_with fail
                  go_ret
                  exact RG.err HE.out k2 rfl (show (7 : Nat) ≠ 0 by decide) (Nat.le_of_lt hi) k1
          · rw [if_neg hs1] at hr
            by_cases hs2 : 55296 ≤ v ∧ v < 57344
            · rw [if_pos hs2] at hr
              have HE := Lib.hid hr
              have his : Cx.isRune V = false := by
                rw [hV]
                cases hx : Cx.isRune (v : Int) with
                | false => rfl
                | true => have := Cx.isRune_iff.1 hx; omega
              have i1 : (55296 : Int) ≤ V := by omega
              have i2 : (56320 : Int) ≤ V := by omega
              clear hr hs1 hs2 hV hv16
              go_wp2_with fail
              refine (show Calls Tryz.prog 184 #[.pointer (some ⟨b, 0, none⟩), .int .i64 i] _ _ from unit2_calls s i i m 0 0 b _ H.out (by omega) hs).mono ?_
              rintro e w' ⟨rfl, hw'⟩
              subst hw'
              rw [h1]
              go_wp2_with fail
              refine (is10_calls _ _).mono ?_
              rintro e w' ⟨rfl, hw'⟩
              subst hw'
              rw [his]
              go_wp2_with fail
              refine (fail_calls s i m 0 7 i b _ H.out).mono ?_
              rintro e w' ⟨rfl, k1, k2⟩
              go_wp2_with fail
              go_ret
              exact RG.err HE.out k2 rfl (show (7 : Nat) ≠ 0 by decide) (Nat.le_of_lt hi) k1
            · rw [if_neg hs2] at hr
              have HE := Lib.hid hr
              have his : Cx.isRune V = true := Cx.isRune_iff.2 (by omega)
              have hvl : v ≤ 1114111 := by omega
              have HVL := Lib.hid hvl
              clear hvl
              clear hr
              by_cases i1 : (55296 : Int) ≤ V
              · have i2 : (56320 : Int) ≤ V := by omega
                clear hs1 hs2 hV hv16
                go_wp2_with fail
                refine (show Calls Tryz.prog 184 #[.pointer (some ⟨b, 0, none⟩), .int .i64 i] _ _ from unit2_calls s i i m 0 0 b _ H.out (by omega) hs).mono ?_
                rintro e w' ⟨rfl, hw'⟩
                subst hw'
                rw [h1]
                go_wp2_with fail
                refine (is10_calls _ _).mono ?_
                rintro e w' ⟨rfl, hw'⟩
                subst hw'
                rw [his]
                go_wp2_with fail
                refine (show Calls Tryz.prog 111 #[.int .i64 V] _ _ from by rw [HV.out]; exact bytes10_calls v HVL.out _).mono ?_
                rintro e w7 ⟨rfl, hb7⟩
                go_wp2_with fail
                go_ret
                have hr7 : R2 b s ((i + 6 : Nat) : Int) m 0 0 w7 := (show R2 b s ((i + 6 : Nat) : Int) m 0 0 _ from H.out.set1 _).below hb7
                exact RG.ok HE.out (((Mv.refl b _).set (.inl rfl) _).below hb7) ⟨rfl, hr7⟩
              · have i1 : V < 55296 := by omega
                clear hs1 hs2 hV hv16
                go_wp2_with fail
                refine (show Calls Tryz.prog 184 #[.pointer (some ⟨b, 0, none⟩), .int .i64 i] _ _ from unit2_calls s i i m 0 0 b _ H.out (by omega) hs).mono ?_
                rintro e w' ⟨rfl, hw'⟩
                subst hw'
                rw [h1]
                go_wp2_with fail
                refine (is10_calls _ _).mono ?_
                rintro e w' ⟨rfl, hw'⟩
                subst hw'
                rw [his]
                go_wp2_with fail
                refine (show Calls Tryz.prog 111 #[.int .i64 V] _ _ from by rw [HV.out]; exact bytes10_calls v HVL.out _).mono ?_
                rintro e w7 ⟨rfl, hb7⟩
                go_wp2_with fail
                go_ret
                have hr7 : R2 b s ((i + 6 : Nat) : Int) m 0 0 w7 := (show R2 b s ((i + 6 : Nat) : Int) m 0 0 _ from H.out.set1 _).below hb7
                exact RG.ok HE.out (((Mv.refl b _).set (.inl rfl) _).below hb7) ⟨rfl, hr7⟩
end Go.Proofs.YtejlddimokmgjaaGreatDoor
