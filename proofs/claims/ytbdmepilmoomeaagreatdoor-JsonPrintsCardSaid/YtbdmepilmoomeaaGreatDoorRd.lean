/- WALKS: the small methods of package json's reader. Each contract says what the call returns, or with what it panics, and what became of the reader in memory. -/
import Derived.Test.YtbdmepilmoomeaaGreatDoorBase
import Derived.Test.YtbdmepilmoomeaaGreatDoorLib1
import Derived.Test.YtbdmepilmoomeaaGreatDoorCxLaws
namespace Go.Proofs.YtbdmepilmoomeaaGreatDoor
open Go.RowKit

theorem peek_in (s : ByteArray) (i : Nat) (m : Int) (b : Nat) (w : World) (h : Rd b s i m w) (hi : i < s.size) (_hs : s.size ≤ maxLen) :
    Calls Tryz.prog 53 #[.pointer (some ⟨b, 0, none⟩)] w fun e w' => e = .returned (.int .u8 s[i].toNat) ∧ ∃ n, w' = w.drewN n := by
  have h0 := h.c0; have h1 := h.c1
  unfold maxLen at _hs
  clear h
  go_enter Tryz.func53, Tryz.ntmps53
  go_wp2
  go_quiet (fail)
  go_wp2
  go_quiet (fail)
  go_wp2
  go_ret
  exact ⟨rfl, _, World.drewN_drewN _ _ _⟩
theorem peek_out (s : ByteArray) (i : Nat) (m : Int) (b : Nat) (w : World) (h : Rd b s i m w) (hi : s.size ≤ i) (_hs : s.size ≤ maxLen) :
    Calls Tryz.prog 53 #[.pointer (some ⟨b, 0, none⟩)] w fun e w' => e = .returned (.int .u8 0) ∧ ∃ n, w' = w.drewN n := by
  have h0 := h.c0; have h1 := h.c1
  unfold maxLen at _hs
  clear h
  go_enter Tryz.func53, Tryz.ntmps53
  go_wp2
  go_quiet (fail)
  go_wp2
  go_ret
  exact ⟨rfl, _, rfl⟩
theorem peek_size {s : ByteArray} {i : Nat} (hi : i < s.size) : Cx.peek s.data.toList i = s[i] := by
  simp only [Cx.peek, List.getD, List.getElem?_eq_getElem (show i < s.data.toList.length from hi)]; rfl
theorem peek_calls (s : ByteArray) (i : Nat) (m : Int) (b : Nat) (w : World) (h : Rd b s i m w) (hs : s.size ≤ maxLen) :
    Calls Tryz.prog 53 #[.pointer (some ⟨b, 0, none⟩)] w fun e w' => e = .returned (.int .u8 (Cx.peek s.data.toList i).toNat) ∧ ∃ n, w' = w.drewN n := by
  rcases Nat.lt_or_ge i s.size with hi | hi
  · rw [peek_size hi]; exact peek_in s i m b w h hi hs
  · rw [Cx.peek_end (by simpa using hi)]; exact peek_out s i m b w h hi hs

theorem give_calls (p : Value) (e at' : Int) (w : World) :
    Calls Tryz.prog 26 #[p, .int .i64 e, .int .i64 at'] w fun x w' => x = .panicked (fault e at') ∧ w = w' := by
  go_enter Tryz.func26, Tryz.ntmps26
  go_wp2
  exact ⟨rfl, rfl, rfl⟩

/-- What 'take' does. -/
theorem take_ok (s : ByteArray) (i : Nat) (m : Int) (b : Nat) (w : World) (h : Rd b s i m w) (hi : i < s.size) (hs : s.size ≤ maxLen) :
    Calls Tryz.prog 80 #[.pointer (some ⟨b, 0, none⟩), .int .u8 s[i].toNat] w fun e w' => e = .returned (.tuple #[]) ∧ Rd b s (i + 1) m w' ∧ Mv b w w' := by
  have h0 := h.c0; have h1 := h.c1; have hf := h.fr 1
  unfold maxLen at hs
  have hne : ((i : Int) == (s.size : Int)) = false := by simp; omega
  have H := Lib.hid h; clear h
  go_enter Tryz.func80, Tryz.ntmps80
  go_wp2
  go_quiet (fail)
  go_wp2
  go_end0
  exact ⟨rfl, (H.out.drewN _).set1 _, ((Mv.refl b w).drewN _).set (.inl rfl) _⟩
theorem take_bad (s : ByteArray) (i : Nat) (m : Int) (b : Nat) (c : UInt8) (w : World) (h : Rd b s i m w) (hc : Cx.peek s.data.toList i ≠ c) (hle : i ≤ s.size) (_hs : s.size ≤ maxLen) :
    Calls Tryz.prog 80 #[.pointer (some ⟨b, 0, none⟩), .int .u8 c.toNat] w fun e w' => e = .panicked (fault 7 i) ∧ Mv b w w' := by
  have h0 := h.c0; have h1 := h.c1
  unfold maxLen at _hs
  clear h
  rcases Nat.lt_or_ge i s.size with hi | hi
  · have hne : ((i : Int) == (s.size : Int)) = false := by simp; omega
    have hcc : ((s[i].toNat : Int) != (c.toNat : Int)) = true := by
      rw [peek_size hi] at hc
      rw [bne_iff_ne]
      intro e
      exact hc (UInt8.toNat_inj.1 (by omega))
    clear hc
    go_enter Tryz.func80, Tryz.ntmps80
    go_wp2
    go_quiet (fail)
    go_wp2_with (go_at_call 26; refine (give_calls _ _ _ _).mono ?_; rintro e w' ⟨rfl, rfl⟩)
    exact ⟨rfl, rfl, (Mv.refl b w).drewN _⟩
  · have : i = s.size := by omega
    subst this
    have hne : ((s.size : Int) == (s.size : Int)) = true := by simp
    clear hc
    go_enter Tryz.func80, Tryz.ntmps80
    go_wp2
    go_quiet (fail)
    go_wp2_with (go_at_call 26; refine (give_calls _ _ _ _).mono ?_; rintro e w' ⟨rfl, rfl⟩)
    exact ⟨rfl, rfl, (Mv.refl b w).drewN _⟩
end Go.Proofs.YtbdmepilmoomeaaGreatDoor
