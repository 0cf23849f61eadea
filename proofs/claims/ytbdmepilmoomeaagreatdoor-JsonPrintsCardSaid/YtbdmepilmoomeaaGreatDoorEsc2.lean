/- WALKS: escapes. -/
import Derived.Test.YtbdmepilmoomeaaGreatDoorEsc
namespace Go.Proofs.YtbdmepilmoomeaaGreatDoor
open Go.RowKit

theorem simple_ix {c x : UInt8} (h : Cx.simple c = some x) : ∃ k : Nat, k < 8 ∧ ix [34, 92, 47, 98, 102, 110, 114, 116] c = k ∧ (⟨#[34, 92, 47, 8, 12, 10, 13, 9]⟩ : ByteArray).extract k (k + 1) = ⟨#[x]⟩ := by
  unfold Cx.simple at h
  by_cases h1 : c = 34
  · rw [if_pos h1] at h; injection h with h; subst h1; subst h; exact ⟨0, by decide, by decide, by rw [extract_list]; rfl⟩
  rw [if_neg h1] at h
  by_cases h2 : c = 92
  · rw [if_pos h2] at h; injection h with h; subst h2; subst h; exact ⟨1, by decide, by decide, by rw [extract_list]; rfl⟩
  rw [if_neg h2] at h
  by_cases h3 : c = 47
  · rw [if_pos h3] at h; injection h with h; subst h3; subst h; exact ⟨2, by decide, by decide, by rw [extract_list]; rfl⟩
  rw [if_neg h3] at h
  by_cases h4 : c = 98
  · rw [if_pos h4] at h; injection h with h; subst h4; subst h; exact ⟨3, by decide, by decide, by rw [extract_list]; rfl⟩
  rw [if_neg h4] at h
  by_cases h5 : c = 102
  · rw [if_pos h5] at h; injection h with h; subst h5; subst h; exact ⟨4, by decide, by decide, by rw [extract_list]; rfl⟩
  rw [if_neg h5] at h
  by_cases h6 : c = 110
  · rw [if_pos h6] at h; injection h with h; subst h6; subst h; exact ⟨5, by decide, by decide, by rw [extract_list]; rfl⟩
  rw [if_neg h6] at h
  by_cases h7 : c = 114
  · rw [if_pos h7] at h; injection h with h; subst h7; subst h; exact ⟨6, by decide, by decide, by rw [extract_list]; rfl⟩
  rw [if_neg h7] at h
  by_cases h8 : c = 116
  · rw [if_pos h8] at h; injection h with h; subst h8; subst h; exact ⟨7, by decide, by decide, by rw [extract_list]; rfl⟩
  rw [if_neg h8] at h
  cases h
theorem simple_no {c : UInt8} (h : Cx.simple c = none) : ix [34, 92, 47, 98, 102, 110, 114, 116] c = -1 := by
  refine ix_neg ?_
  intro hm
  simp only [List.mem_cons, List.not_mem_nil, or_false] at hm
  rcases hm with rfl | rfl | rfl | rfl | rfl | rfl | rfl | rfl <;> cases h

set_option maxHeartbeats 1000000 in
theorem escape_simple (s : ByteArray) (i : Nat) (m : Int) (b : Nat) (x : UInt8) (w : World) (h : Rd b s i m w) (hi : i + 1 < s.size) (hs : s.size ≤ 100000) (hx : Cx.simple s[i + 1] = some x) :
    Calls Tryz.prog 81 #[.pointer (some ⟨b, 0, none⟩)] w fun e w' => e = .returned (.string ⟨#[x]⟩) ∧ Rd b s (i + 2 : Nat) m w' ∧ Mv b w w' := by
  obtain ⟨k, hk8, hix, hsl⟩ := simple_ix hx
  have c0 := h.c0; have c1 := h.c1; have hf := h.fr 1
  have H2 : Hid (Rd b s (i + 2 : Nat) m (w.setCell ⟨b, 1, none⟩ (.int .i64 (i + 2)))) := Lib.hid (h.set1 (i + 2))
  have H := Lib.hid h; have HSL := Lib.hid hsl
  clear h hx hsl
  have HIX := Lib.hid hix; clear hix
  go_enter Tryz.func81, Tryz.ntmps81
  go_wp2_with fail
  refine (indexByte_calls _ _ _).mono ?_
  rintro e w' ⟨rfl, rfl⟩
  have h' : ix (⟨#[34, 92, 47, 98, 102, 110, 114, 116]⟩ : ByteArray).data.toList s[i + 1] = k := HIX.out
  rw [h']
  clear h'
  go_wp2
  go_ret
  exact ⟨ret_str HSL.out, H2.out, (Mv.refl b w).set (.inl rfl) _⟩

/-- Where no plain escape stands: what four digits say, and what four more say behind them. -/
def uniRes (i : Nat) (u lo : Int) : Except (Nat × Nat) (List UInt8 × Nat) :=
  if 55296 ≤ u ∧ u < 56320 ∧ 56320 ≤ lo ∧ lo < 57344 then .ok (Cx.enc (65536 + (u - 55296) * 1024 + (lo - 56320)).toNat, i + 12)
  else if u < 0 ∨ (55296 ≤ u ∧ u < 57344) then .error (7, i) else .ok (Cx.enc u.toNat, i + 6)
theorem escape_uni {s : List UInt8} {i : Nat} (h : (s[i + 1]?).bind Cx.simple = none) : Cx.escape s i = uniRes i (unitI s i) (unitI s (i + 6)) := by
  unfold Cx.escape uniRes
  rw [h]; simp only
  unfold unitI
  cases hu : Cx.unit s i with
  | none => simp
  | some v =>
    simp only
    by_cases hv : 55296 ≤ v ∧ v < 56320
    · rw [if_pos hv]
      cases hl : Cx.unit s (i + 6) with
      | none => simp only; rw [if_neg (by omega), if_pos (by omega)]
      | some lo =>
        simp only
        by_cases hlo : 56320 ≤ lo ∧ lo < 57344
        · have e : (65536 + ((v : Int) - 55296) * 1024 + ((lo : Int) - 56320)).toNat = 65536 + (v - 55296) * 1024 + (lo - 56320) := by omega
          rw [if_pos hlo, if_pos (by omega), e]
        · rw [if_neg hlo, if_neg (by omega), if_pos (by omega)]
    · rw [if_neg hv]
      by_cases h2 : 55296 ≤ v ∧ v < 57344
      · rw [if_pos h2, if_neg (by omega), if_pos (by omega)]
      · rw [if_neg h2, if_neg (by omega), if_neg (by omega)]; simp

theorem unitI_bd (s : List UInt8) (i : Nat) : -1 ≤ unitI s i ∧ unitI s i < 65536 := by
  unfold unitI
  split
  · rename_i v hv; have := Cx.unit_ok hv; omega
  · decide

set_option maxHeartbeats 8000000 in
/-- The part of 'escape' behind the look for a plain one. -/
theorem escape_digits (s : ByteArray) (i : Nat) (m : Int) (b : Nat) (w : World) (h : Rd b s i m w) (hg : Glb w) (hb8 : 8 ≤ b) (hi : i < s.size) (hs : s.size ≤ 100000) (hx : (s.data.toList[i + 1]?).bind Cx.simple = none) :
    Calls Tryz.prog 81 #[.pointer (some ⟨b, 0, none⟩)] w (Gives (Cx.escape s.data.toList i) (TextAt b s m) b w) := by
  rw [escape_uni hx]
  have c0 := h.c0; have c1 := h.c1; have hf := h.fr 1
  obtain ⟨u, hu⟩ : ∃ u, u = unitI s.data.toList i := ⟨_, rfl⟩
  obtain ⟨lo, hlo⟩ : ∃ lo, lo = unitI s.data.toList (i + 6) := ⟨_, rfl⟩
  have bu := unitI_bd s.data.toList i; have bl := unitI_bd s.data.toList (i + 6)
  rw [← hu] at bu; rw [← hlo] at bl
  rw [← hu, ← hlo]
  obtain ⟨bu0, bu1⟩ := bu; obtain ⟨bl0, bl1⟩ := bl
  have HU := Lib.hid hu; have HLO := Lib.hid hlo
  obtain ⟨W2, hW2⟩ : ∃ W2, W2 = (w.setCell ⟨b, 1, none⟩ (.int .i64 (i + 2))).setCell ⟨b, 1, none⟩ (.int .i64 (i + 6)) := ⟨_, rfl⟩
  have r6 : Rd b s ((i : Int) + 6) m W2 := by rw [hW2]; exact (h.set1 _).set1 _
  have g6 : Glb W2 := by rw [hW2]; exact (hg.set (by exact hb8) _).set (by exact hb8) _
  have m6 : Mv b w W2 := by rw [hW2]; exact ((Mv.refl b w).set (.inl rfl) _).set (.inl rfl) _
  have R6 := Lib.hid r6; have G6 := Lib.hid g6; have M6 := Lib.hid m6; have HW2 := Lib.hid hW2
  clear r6 g6 m6 hW2 h hg hu hlo
  have first : ∀ (K : Unit → Prop), True := fun _ => trivial
  clear first
  go_enter Tryz.func81, Tryz.ntmps81
  by_cases hi1 : i + 1 < s.size
  · have hc : Cx.simple s[i + 1] = none := by
      have : s.data.toList[i + 1]? = some s[i + 1] := by rw [List.getElem?_eq_getElem (show i + 1 < s.data.toList.length from hi1)]; rfl
      rw [this] at hx; exact hx
    have HIX := Lib.hid (simple_no hc)
    clear hx hc
    go_wp2_with fail
    refine (indexByte_calls _ _ _).mono ?_
    rintro e w' ⟨rfl, rfl⟩
    have h' : ix (⟨#[34, 92, 47, 98, 102, 110, 114, 116]⟩ : ByteArray).data.toList s[i + 1] = -1 := HIX.out
    rw [h']
    clear h'
    clear HIX hi1
    go_wp2_with fail
    rw [← HW2.out]
    refine (unit_calls s (i + 6) i m b _ R6.out G6.out (by omega) hs).mono ?_
    rintro e w3 ⟨rfl, q3⟩
    have r7 : Rd b s ((i : Int) + 6) m w3 := R6.out.below q3
    have g7 := G6.out.below q3
    have m7 := M6.out.below q3
    rw [← HU.out]
    have c17 := r7.c1; have c07 := r7.c0; have f17 := r7.fr 1
    have R7 := Lib.hid r7; have G7 := Lib.hid g7; have M7 := Lib.hid m7
    clear r7 g7 m7 q3 c0 c1 hf
    go_wp2_with fail
    refine (unit_calls s (i + 6) (i + 6) m b _ R7.out G7.out (by omega) hs).mono ?_
    rintro e w4 ⟨rfl, q4⟩
    have r8 : Rd b s ((i : Int) + 6) m w4 := R7.out.below q4
    have m8 := M7.out.below q4
    rw [← HLO.out]
    have c18 := r8.c1; have f18 := r8.fr 1
    have R8 := Lib.hid r8; have M8 := Lib.hid m8
    clear r8 m8 q4 c17 c07 f17
    by_cases hA : 55296 ≤ u ∧ u < 56320 ∧ 56320 ≤ lo ∧ lo < 57344
    · obtain ⟨a1, a2, a3, a4⟩ := hA
      have hres : uniRes i u lo = .ok (Cx.enc (65536 + (u - 55296) * 1024 + (lo - 56320)).toNat, i + 12) := by unfold uniRes; rw [if_pos ⟨a1, a2, a3, a4⟩]
      have HRES := Lib.hid hres; clear hres
      go_wp2_with fail
      refine (append_calls _ _ (by omega) (by omega) (by omega)).mono ?_
      rintro e w5 ⟨rfl, rfl⟩
      go_wp2
      go_ret
      refine Gives.ok HRES.out (M8.out.set (.inl rfl) _) ⟨?_, ?_⟩
      · exact ret_str (by rw [show 65536 + (u - 55296) * 1024 + lo - 56320 = 65536 + (u - 55296) * 1024 + (lo - 56320) by omega])
      · have h12 := R8.out.set1 ((i : Int) + 6 + 6)
        rw [show ((i + 12 : Nat) : Int) = (i : Int) + 6 + 6 by omega]; exact h12
    by_cases hB : u < 0 ∨ (55296 ≤ u ∧ u < 57344)
    · have hres : uniRes i u lo = .error (7, i) := by unfold uniRes; rw [if_neg hA, if_pos hB]
      have HRES := Lib.hid hres; clear hres
      have hsplit : (u < 0 ∧ u < 55296) ∨ (0 ≤ u ∧ 56320 ≤ u ∧ u < 57344) ∨ (0 ≤ u ∧ 55296 ≤ u ∧ u < 56320 ∧ lo < 56320) ∨ (0 ≤ u ∧ 55296 ≤ u ∧ u < 56320 ∧ 56320 ≤ lo ∧ 57344 ≤ lo) := by omega
      clear hA hB
      rcases hsplit with ⟨k1, k2⟩ | ⟨k1, k2, k3⟩ | ⟨k1, k2, k3, k4⟩ | ⟨k1, k2, k3, k4, k5⟩
      all_goals
        go_wp2_with (go_at_call 26; refine (give_calls _ _ _ _).mono ?_; rintro e w' ⟨rfl, rfl⟩)
        exact ⟨rfl, Gives.err HRES.out M8.out⟩
    · have hres : uniRes i u lo = .ok (Cx.enc u.toNat, i + 6) := by unfold uniRes; rw [if_neg hA, if_neg hB]
      have HRES := Lib.hid hres; clear hres
      have hsplit : (0 ≤ u ∧ u < 55296) ∨ (0 ≤ u ∧ 57344 ≤ u) := by omega
      clear hA hB
      rcases hsplit with ⟨k1, k2⟩ | ⟨k1, k2⟩
      all_goals
        go_wp2_with fail
        refine (append_calls u _ (by omega) (by omega) (by omega)).mono ?_
        rintro e w5 ⟨rfl, rfl⟩
        go_wp2
        go_ret
        refine Gives.ok HRES.out M8.out ⟨rfl, ?_⟩
        have h6 := R8.out
        rw [show ((i + 6 : Nat) : Int) = (i : Int) + 6 by omega]; exact h6
  · clear hx
    go_wp2_with fail
    rw [← HW2.out]
    refine (unit_calls s (i + 6) i m b _ R6.out G6.out (by omega) hs).mono ?_
    rintro e w3 ⟨rfl, q3⟩
    have r7 : Rd b s ((i : Int) + 6) m w3 := R6.out.below q3
    have g7 := G6.out.below q3
    have m7 := M6.out.below q3
    rw [← HU.out]
    have c17 := r7.c1; have c07 := r7.c0; have f17 := r7.fr 1
    have R7 := Lib.hid r7; have G7 := Lib.hid g7; have M7 := Lib.hid m7
    clear r7 g7 m7 q3 c0 c1 hf
    go_wp2_with fail
    refine (unit_calls s (i + 6) (i + 6) m b _ R7.out G7.out (by omega) hs).mono ?_
    rintro e w4 ⟨rfl, q4⟩
    have r8 : Rd b s ((i : Int) + 6) m w4 := R7.out.below q4
    have m8 := M7.out.below q4
    rw [← HLO.out]
    have c18 := r8.c1; have f18 := r8.fr 1
    have R8 := Lib.hid r8; have M8 := Lib.hid m8
    clear r8 m8 q4 c17 c07 f17
    by_cases hA : 55296 ≤ u ∧ u < 56320 ∧ 56320 ≤ lo ∧ lo < 57344
    · obtain ⟨a1, a2, a3, a4⟩ := hA
      have hres : uniRes i u lo = .ok (Cx.enc (65536 + (u - 55296) * 1024 + (lo - 56320)).toNat, i + 12) := by unfold uniRes; rw [if_pos ⟨a1, a2, a3, a4⟩]
      have HRES := Lib.hid hres; clear hres
      go_wp2_with fail
      refine (append_calls _ _ (by omega) (by omega) (by omega)).mono ?_
      rintro e w5 ⟨rfl, rfl⟩
      go_wp2
      go_ret
      refine Gives.ok HRES.out (M8.out.set (.inl rfl) _) ⟨?_, ?_⟩
      · exact ret_str (by rw [show 65536 + (u - 55296) * 1024 + lo - 56320 = 65536 + (u - 55296) * 1024 + (lo - 56320) by omega])
      · have h12 := R8.out.set1 ((i : Int) + 6 + 6)
        rw [show ((i + 12 : Nat) : Int) = (i : Int) + 6 + 6 by omega]; exact h12
    by_cases hB : u < 0 ∨ (55296 ≤ u ∧ u < 57344)
    · have hres : uniRes i u lo = .error (7, i) := by unfold uniRes; rw [if_neg hA, if_pos hB]
      have HRES := Lib.hid hres; clear hres
      have hsplit : (u < 0 ∧ u < 55296) ∨ (0 ≤ u ∧ 56320 ≤ u ∧ u < 57344) ∨ (0 ≤ u ∧ 55296 ≤ u ∧ u < 56320 ∧ lo < 56320) ∨ (0 ≤ u ∧ 55296 ≤ u ∧ u < 56320 ∧ 56320 ≤ lo ∧ 57344 ≤ lo) := by omega
      clear hA hB
      rcases hsplit with ⟨k1, k2⟩ | ⟨k1, k2, k3⟩ | ⟨k1, k2, k3, k4⟩ | ⟨k1, k2, k3, k4, k5⟩
      all_goals
        go_wp2_with (go_at_call 26; refine (give_calls _ _ _ _).mono ?_; rintro e w' ⟨rfl, rfl⟩)
        exact ⟨rfl, Gives.err HRES.out M8.out⟩
    · have hres : uniRes i u lo = .ok (Cx.enc u.toNat, i + 6) := by unfold uniRes; rw [if_neg hA, if_neg hB]
      have HRES := Lib.hid hres; clear hres
      have hsplit : (0 ≤ u ∧ u < 55296) ∨ (0 ≤ u ∧ 57344 ≤ u) := by omega
      clear hA hB
      rcases hsplit with ⟨k1, k2⟩ | ⟨k1, k2⟩
      all_goals
        go_wp2_with fail
        refine (append_calls u _ (by omega) (by omega) (by omega)).mono ?_
        rintro e w5 ⟨rfl, rfl⟩
        go_wp2
        go_ret
        refine Gives.ok HRES.out M8.out ⟨rfl, ?_⟩
        have h6 := R8.out
        rw [show ((i + 6 : Nat) : Int) = (i : Int) + 6 by omega]; exact h6

end Go.Proofs.YtbdmepilmoomeaaGreatDoor
