/- WALKS: what stands behind a part; a list, as the document's answer reads it. -/
import Derived.Test.YtejlddimokmgjaaGreatDoorYRh
namespace Go.Proofs.YtejlddimokmgjaaGreatDoor
open Go.RowKit

theorem more_comma (s : ByteArray) (i : Nat) (m : Int) (b : Nat) (c : UInt8) (w : World) (h : R2 b s i m 0 0 w) (hi : i ≤ s.size) (hs : s.size ≤ maxLen) (h44 : Cx.peek s.data.toList (Cx.skipB s.data.toList i) = 44) :
    Calls Tryz.prog 162 #[.pointer (some ⟨b, 0, none⟩), .int .u8 c.toNat] w fun e w' => e = .returned (.bool true) ∧ R2 b s (Cx.skipB s.data.toList i + 1 : Nat) m 0 0 w' ∧ Mv b w w' := by
  have H := Lib.hid h
  clear h
  go_enter Tryz.func162, Tryz.ntmps162
  go_wp2_with fail
  refine (blanks2_calls s i m 0 0 b _ H.out hi hs).mono ?_
  rintro e w1 ⟨rfl, k1, k2⟩
  generalize hp : Cx.skipB s.data.toList i = p at h44 k1 ⊢
  have hlt : p < s.size := Cx.peek_lt (s := s.data.toList) (by rw [h44]; decide)
  have R1 := Lib.hid k1; have M1 := Lib.hid k2; have H44 := Lib.hid h44
  have HP := Lib.hid hp
  clear k1 k2 hp h44
  go_wp2_with fail
  refine (next_mv s p m 0 0 b _ R1.out hs).mono ?_
  rintro e w2 ⟨rfl, k1, k2⟩
  rw [H44.out]
  have R2' := Lib.hid k1; have M2 := Lib.hid (M1.out.trans k2)
  have c0 := k1.c0; have c1 := k1.c1; have hf := k1.fr 1
  clear k1 k2
  unfold maxLen at hs
  go_wp2_with fail
  refine (ok_calls s p m _ _ b _ R2'.out).mono ?_
  rintro e w' ⟨rfl, hw'⟩
  subst hw'
  go_wp2_with fail
  go_quiet (fail)
  go_wp2_with fail
  go_ret
  rw [HP.out]
  exact ⟨rfl, (R2'.out.drewN _).set1 _, (M2.out.drewN _).set (.inl rfl) _⟩
theorem more_end (s : ByteArray) (i : Nat) (m : Int) (b : Nat) (c : UInt8) (w : World) (h : R2 b s i m 0 0 w) (hi : i ≤ s.size) (hs : s.size ≤ maxLen) (hc : Cx.peek s.data.toList (Cx.skipB s.data.toList i) = c) (h44 : c ≠ 44) (h0 : c ≠ 0) :
    Calls Tryz.prog 162 #[.pointer (some ⟨b, 0, none⟩), .int .u8 c.toNat] w fun e w' => e = .returned (.bool false) ∧ R2 b s (Cx.skipB s.data.toList i + 1 : Nat) m 0 0 w' ∧ Mv b w w' := by
  have H := Lib.hid h
  have n44 : ((c.toNat : Int) == 44) = false := u8ne (k := 44) h44
  have n44' : ((c.toNat : Int) != 44) = true := by rw [bne, n44]; rfl
  clear h
  go_enter Tryz.func162, Tryz.ntmps162
  go_wp2_with fail
  refine (blanks2_calls s i m 0 0 b _ H.out hi hs).mono ?_
  rintro e w1 ⟨rfl, k1, k2⟩
  generalize hp : Cx.skipB s.data.toList i = p at hc k1 ⊢
  have hlt : p < s.size := Cx.peek_lt (s := s.data.toList) (by rw [hc]; exact h0)
  have R1 := Lib.hid k1; have M1 := Lib.hid k2; have HC := Lib.hid hc
  have HP := Lib.hid hp
  clear k1 k2 hp hc h44 h0
  go_wp2_with fail
  refine (next_mv s p m 0 0 b _ R1.out hs).mono ?_
  rintro e w2 ⟨rfl, k1, k2⟩
  rw [HC.out]
  have R2' := Lib.hid k1; have M2 := Lib.hid (M1.out.trans k2)
  have c0 := k1.c0; have c1 := k1.c1; have hf := k1.fr 1
  clear k1 k2
  unfold maxLen at hs
  go_wp2_with fail
  refine (ok_calls s p m _ _ b _ R2'.out).mono ?_
  rintro e w' ⟨rfl, hw'⟩
  subst hw'
  go_wp2_with fail
  go_quiet (fail)
  go_wp2_with fail
  go_ret
  rw [HP.out]
  exact ⟨rfl, (R2'.out.drewN _).set1 _, (M2.out.drewN _).set (.inl rfl) _⟩
theorem more_bad (s : ByteArray) (i : Nat) (m : Int) (b : Nat) (c : UInt8) (w : World) (h : R2 b s i m 0 0 w) (hi : i ≤ s.size) (hs : s.size ≤ maxLen) (hc : Cx.peek s.data.toList (Cx.skipB s.data.toList i) ≠ c) (h44 : Cx.peek s.data.toList (Cx.skipB s.data.toList i) ≠ 44) :
    Calls Tryz.prog 162 #[.pointer (some ⟨b, 0, none⟩), .int .u8 c.toNat] w fun e w' => e = .returned (.bool false) ∧ R2 b s (Cx.skipB s.data.toList i : Nat) m 7 (Cx.skipB s.data.toList i : Nat) w' ∧ Mv b w w' := by
  have H := Lib.hid h
  clear h
  have hpl : Cx.skipB s.data.toList i ≤ s.size := Cx.skipB_len (s := s.data.toList) hi
  go_enter Tryz.func162, Tryz.ntmps162
  go_wp2_with fail
  refine (blanks2_calls s i m 0 0 b _ H.out hi hs).mono ?_
  rintro e w1 ⟨rfl, k1, k2⟩
  generalize hp : Cx.skipB s.data.toList i = p at hc h44 k1 hpl ⊢
  obtain ⟨d, hd⟩ : ∃ d, d = Cx.peek s.data.toList p := ⟨_, rfl⟩
  rw [← hd] at hc h44
  have n44 : ((d.toNat : Int) == 44) = false := u8ne (k := 44) h44
  have n44' : ((d.toNat : Int) != 44) = true := by rw [bne, n44]; rfl
  have nc : ((d.toNat : Int) == (c.toNat : Int)) = false := u8ne hc
  have nc' : ((d.toNat : Int) != (c.toNat : Int)) = true := by rw [bne, nc]; rfl
  have R1 := Lib.hid k1; have M1 := Lib.hid k2; have HD := Lib.hid hd
  have HP := Lib.hid hp
  clear k1 k2 hp hc h44 hd
  go_wp2_with fail
  refine (next_mv s p m 0 0 b _ R1.out hs).mono ?_
  rintro e w2 ⟨rfl, k1, k2⟩
  rw [← HD.out]
  have R2' := Lib.hid k1; have M2 := Lib.hid (M1.out.trans k2)
  have c0 := k1.c0; have c1 := k1.c1; have hf := k1.fr 1
  clear k1 k2
  unfold maxLen at hs
  go_wp2_with fail
  refine (ok_calls s p m _ _ b _ R2'.out).mono ?_
  rintro e w' ⟨rfl, hw'⟩
  subst hw'
  rcases Nat.lt_or_ge p s.size with hlt | hge
  · go_wp2_with fail
    go_quiet (fail)
    go_wp2_with fail
    refine (fail_calls s p m 0 7 p b _ (R2'.out.drewN _)).mono ?_
    rintro e w3 ⟨rfl, k1, k2⟩
    have K1 := Lib.hid k1; have K2 := Lib.hid ((M2.out.drewN _).trans k2)
    clear k1 k2
    go_wp2_with fail
    go_ret
    rw [HP.out]
    exact ⟨rfl, K1.out, K2.out⟩
  · go_wp2_with fail
    go_quiet (fail)
    go_wp2_with fail
    refine (fail_calls s p m 0 7 p b _ (R2'.out.drewN _)).mono ?_
    rintro e w3 ⟨rfl, k1, k2⟩
    have K1 := Lib.hid k1; have K2 := Lib.hid ((M2.out.drewN _).trans k2)
    clear k1 k2
    go_wp2_with fail
    go_ret
    rw [HP.out]
    exact ⟨rfl, K1.out, K2.out⟩
theorem more_no (s : ByteArray) (i : Nat) (m y q : Int) (b : Nat) (c : UInt8) (w : World) (h : R2 b s i m y q w) (hy : y ≠ 0) (hi : i ≤ s.size) (hs : s.size ≤ maxLen) :
    Calls Tryz.prog 162 #[.pointer (some ⟨b, 0, none⟩), .int .u8 c.toNat] w fun e w' => e = .returned (.bool false) ∧ R2 b s (Cx.skipB s.data.toList i : Nat) m y q w' ∧ Mv b w w' := by
  have H := Lib.hid h
  have hyb : (y == 0) = false := by simpa using hy
  clear h hy
  go_enter Tryz.func162, Tryz.ntmps162
  go_wp2_with fail
  refine (blanks2_calls s i m y q b _ H.out hi hs).mono ?_
  rintro e w1 ⟨rfl, k1, k2⟩
  have R1 := Lib.hid k1; have M1 := Lib.hid k2
  clear k1 k2
  go_wp2_with fail
  refine (next_mv s _ m y q b _ R1.out hs).mono ?_
  rintro e w2 ⟨rfl, k1, k2⟩
  have R2' := Lib.hid k1; have M2 := Lib.hid (M1.out.trans k2)
  clear k1 k2
  go_wp2_with fail
  refine (ok_calls s _ m _ _ b _ R2'.out).mono ?_
  rintro e w' ⟨rfl, hw'⟩
  subst hw'
  rw [hyb]
  go_wp2_with fail
  go_ret
  exact ⟨rfl, R2'.out, M2.out⟩

/-- What a reader of a value hands back; what it hands back in its fault. -/
def JRet2 (b : Nat) (s : ByteArray) (w : World) (r : Cx.J × Nat × Nat) (e : Ending) (w' : World) : Prop := ∃ cs : List Value, e = .returned (.agg cs.toArray) ∧ JAt w' (fun g => w.heap.size ≤ g) r.1 cs ∧ R2 b s r.2.1 r.2.2 0 0 w'
def JBad (w : World) (e : Ending) (w' : World) : Prop := ∃ (v : Cx.J) (cs : List Value), e = .returned (.agg cs.toArray) ∧ JAt w' (fun g => w.heap.size ≤ g) v cs
end Go.Proofs.YtejlddimokmgjaaGreatDoor
