/- WALKS: package utf; what the package-level variables must hold for it. -/
import Derived.Test.YtbdmepilmoomeaaGreatDoorPu
import Derived.Test.YtbdmepilmoomeaaGreatDoorCxLaws
import Derived.Lib.DecodeN
import Derived.Lib.ValidLaws
import Derived.Laws.Cover4
namespace Go.Proofs.YtbdmepilmoomeaaGreatDoor
open Go.RowKit

/-- An error lies in a variable. -/
def ErrAt (g : Nat) (w : World) : Prop := ∃ v, w.cell? ⟨g, 0, none⟩ = some v ∧ (v = .nilIface ∨ ∃ te pe, v = .iface te pe)
/-- What the package-level variables hold. -/
def Glb (w : World) : Prop := Lib.Utf8Tabs 2 3 w ∧ ErrAt 0 w ∧ ErrAt 1 w
theorem ErrAt.same {g : Nat} {w w' : World} (h : ErrAt g w) (hk : ∀ a v, a.block = g → w.cell? a = some v → w'.cell? a = some v) : ErrAt g w' := by
  obtain ⟨v, h1, h2⟩ := h
  exact ⟨v, hk _ v rfl h1, h2⟩
theorem Glb.same {w w' : World} (h : Glb w) (hk : ∀ a v, a.block < 8 → w.cell? a = some v → w'.cell? a = some v) : Glb w' :=
  ⟨⟨fun c hc => hk _ _ (show 2 < 8 by decide) (h.1.1 c hc), fun i hi => ⟨hk _ _ (show 3 < 8 by decide) (h.1.2 i hi).1, hk _ _ (show 3 < 8 by decide) (h.1.2 i hi).2⟩⟩,
   h.2.1.same fun a v ha => hk a v (by rw [ha]; decide), h.2.2.same fun a v ha => hk a v (by rw [ha]; decide)⟩
theorem Glb.mv {b : Nat} {w w' : World} (h : Glb w) (k : Mv b w w') (hb : 8 ≤ b) : Glb w' := h.same fun _ _ ha hc => k.cell hc (by omega)
theorem Glb.below {w w' : World} (h : Glb w) (k : Below w.heap.size w w') : Glb w' := h.same fun a _ _ hc => (k.cell (World.block_lt_of_cell? w a hc)).trans hc
theorem Glb.drewN {w : World} (h : Glb w) (n : Nat) : Glb (w.drewN n) := h
theorem Glb.alloc {w : World} (h : Glb w) (o : Obj) : Glb (w.alloc o) := h.below ((Below.refl _ _).alloc (Nat.le_refl _) _)
theorem Glb.set {w : World} (h : Glb w) {a : Addr} (ha : 8 ≤ a.block) (u : Value) : Glb (w.setCell a u) := h.same fun x v hx hc => by
  rw [World.cell?_of_block (w := w) (Below.heap_setCell w a u x.block (by omega))]; exact hc

/-! ### The decoder's answer and the model's length of a rune -/
theorem get_bytes (s : ByteArray) (k : Nat) : (s.get! k) = s.data.toList.getD k 0 := by
  rcases Nat.lt_or_ge k s.size with h | h
  · rw [Utf8W.get!_of_lt s k h]
    simp only [List.getD, List.getElem?_eq_getElem (show k < s.data.toList.length from h)]; rfl
  · simp only [List.getD, List.getElem?_eq_none (show s.data.toList.length ≤ k from h)]
    simp only [ByteArray.get!, Array.getElem!_eq_getD, Array.getD]
    rw [dif_neg (show ¬ k < s.data.size from Nat.not_lt.2 h)]; rfl
theorem cont_div (c : UInt8) : (Cx.cont c = true) ↔ c.toNat / 64 = 2 := by
  simp only [Cx.cont, Bool.and_eq_true, decide_eq_true_eq, UInt8.le_iff_toNat_le]
  simp only [UInt8.reduceToNat]; omega
theorem decode_rune (s : ByteArray) (hne : s.size ≠ 0) :
    (Cx.runeLen s.data.toList = 0 ∧ Lib.decodeGo s = (65533, 1)) ∨ (Cx.runeLen s.data.toList ≠ 0 ∧ (Lib.decodeGo s).2 = Cx.runeLen s.data.toList ∧ ((Lib.decodeGo s).1 = 65533 → 3 ≤ (Lib.decodeGo s).2) ∧ (Lib.decodeGo s).1 < 0x110000) := by
  unfold Lib.decodeGo
  rw [if_neg hne, Lib.decode_at s 0]
  simp only [get_bytes, Nat.sub_zero, Nat.zero_add]
  have hl : s.data.toList.length = s.size := rfl
  cases hs : s.data.toList with
  | nil => rw [hs] at hl; simp at hl; omega
  | cons a l =>
    rw [hs] at hl
    simp only [List.length_cons] at hl
    simp only [List.getD_cons_zero, List.getD_cons_succ]
    have hb : ∀ k, k < 3 → (k + 1 < s.size ∧ (l.getD k 0).toNat / 64 = 2) = (Cx.cont (l.getD k 0) = true) := fun k _ => by
      rw [cont_div]
      refine propext ⟨fun h => h.2, fun h => ⟨?_, h⟩⟩
      have := Cx.cont_len (l := l) (k := k) ((cont_div _).2 h)
      omega
    have h0 := hb 0 (by omega); have h1 := hb 1 (by omega); have h2 := hb 2 (by omega)
    simp only [Nat.zero_add, Nat.reduceAdd] at h0 h1 h2
    unfold Lib.decodeN
    simp only [h0, h1, h2]
    clear hb h0 h1 h2
    have u : ∀ c : UInt8, c.toNat < 256 := fun c => c.toNat_lt
    have ua := u a; have u0 := u (l.getD 0 0); have u1 := u (l.getD 1 0); have u2 := u (l.getD 2 0)
    have lt : (a < 128) = (a.toNat < 128) := by rw [UInt8.lt_iff_toNat_lt]; rfl
    show (Cx.runeLenC a l = 0 ∧ _) ∨ (Cx.runeLenC a l ≠ 0 ∧ _ = Cx.runeLenC a l ∧ _ ∧ _)
    unfold Cx.runeLenC
    simp only [UInt8.lt_iff_toNat_lt, UInt8.le_iff_toNat_le, UInt8.reduceToNat, ← UInt8.toNat_inj]
    generalize l.getD 0 0 = b0 at *
    generalize l.getD 1 0 = b1 at *
    generalize l.getD 2 0 = b2 at *
    have k0 := cont_div b0; have k1 := cont_div b1; have k2 := cont_div b2
    have r0 : Cx.cont b0 = true → 128 ≤ b0.toNat ∧ b0.toNat ≤ 191 := fun h => by have := k0.1 h; omega
    have r1 : Cx.cont b1 = true → 128 ≤ b1.toNat ∧ b1.toNat ≤ 191 := fun h => by have := k1.1 h; omega
    have r2 : Cx.cont b2 = true → 128 ≤ b2.toNat ∧ b2.toNat ≤ 191 := fun h => by have := k2.1 h; omega
    clear k0 k1 k2
    by_cases c0 : Cx.cont b0 = true <;> by_cases c1 : Cx.cont b1 = true <;> by_cases c2 : Cx.cont b2 = true
    all_goals simp only [c0, c1, c2, and_true, true_and, and_false, false_and, if_true, if_false, Bool.false_eq_true]
    all_goals (try have q0 := r0 c0); (try have q1 := r1 c1); (try have q2 := r2 c2)
    all_goals clear r0 r1 r2
    all_goals repeat' split
    all_goals first
      | omega
      | (left; exact ⟨rfl, rfl⟩)
      | (right; refine ⟨by decide, rfl, ?_, ?_⟩ <;> (try intro hh) <;> simp only at * <;> omega)

theorem valid_eq : ∀ (n : Nat) (l : List UInt8), l.length ≤ n → Lib.validD l = Cx.valid l
  | 0, l, h => by
    have : l = [] := List.length_eq_zero_iff.1 (by omega)
    subst this; rfl
  | n + 1, [], _ => rfl
  | n + 1, a :: l, h => by
    have hd : Lib.decodeL (a :: l) = Lib.decodeGo ⟨(a :: l).toArray⟩ := by
      unfold Lib.decodeL Lib.decodeGo; rw [if_neg (by simp [ByteArray.size])]
    rw [Lib.validD_step _ (by simp), Cx.valid_cons (by simp), hd]
    rcases decode_rune ⟨(a :: l).toArray⟩ (by simp [ByteArray.size]) with ⟨h1, h2⟩ | ⟨h1, h2, h3, _⟩
    · have h1 : Cx.runeLen (a :: l) = 0 := h1
      rw [h2, if_pos ⟨rfl, rfl⟩]; simp [h1]
    · have h1 : Cx.runeLen (a :: l) ≠ 0 := h1
      have h2 : (Lib.decodeGo ⟨(a :: l).toArray⟩).2 = Cx.runeLen (a :: l) := h2
      rw [if_neg (fun hh => by have := h3 hh.1; omega), h2]
      have hlen : ((a :: l).drop (Cx.runeLen (a :: l))).length ≤ n := by simp at h ⊢; omega
      rw [valid_eq n _ hlen]; simp [h1]

/-! ### The walks -/
/-- The first rune of a text is none. -/
theorem rune_bad (s : ByteArray) (w : World) (hg : Glb w) (hne : s.size ≠ 0) (h : Cx.runeLen s.data.toList = 0) :
    Calls Tryz.prog 82 #[.string s] w fun e w' => e = .returned (.tuple #[.int .i64 (-1), .int .i64 1]) ∧ Below w.heap.size w w' := by
  have hd : Lib.decodeGo s = (65533, 1) := by
    rcases decode_rune s hne with ⟨_, h2⟩ | ⟨h1, _⟩
    · exact h2
    · exact absurd h h1
  have HG := Lib.hid hg; have HD := Lib.hid hd
  clear hg hd h
  go_enter Tryz.func82, Tryz.ntmps82
  go_wp2_with fail
  refine (Tryz.utf8_DecodeRuneInString s _ HG.out.1).mono ?_
  rintro e w1 ⟨rfl, hb⟩
  rw [HD.out]
  have HB := Lib.hid hb; clear hb
  go_wp2
  go_ret2
  exact ⟨rfl, HB.out⟩
theorem rune_good (s : ByteArray) (w : World) (hg : Glb w) (h : Cx.runeLen s.data.toList ≠ 0) :
    Calls Tryz.prog 82 #[.string s] w fun e w' => (∃ v : Int, 0 ≤ v ∧ e = .returned (.tuple #[.int .i64 v, .int .i64 (Cx.runeLen s.data.toList)])) ∧ Below w.heap.size w w' := by
  have hne : s.size ≠ 0 := fun e => h (by
    have : s.data.toList = [] := List.length_eq_zero_iff.1 e
    rw [this]; rfl)
  obtain ⟨v, n, hd, hn, hv, h3⟩ : ∃ v n : Nat, Lib.decodeGo s = (v, n) ∧ n = Cx.runeLen s.data.toList ∧ v < 0x110000 ∧ (v = 65533 → 3 ≤ n) := by
    rcases decode_rune s hne with ⟨h1, _⟩ | ⟨_, h2, h3, h4⟩
    · exact absurd h1 h
    · exact ⟨_, _, rfl, h2, h4, h3⟩
  have hn4 := (Cx.runeLen_le s.data.toList).2
  have HG := Lib.hid hg; have HD := Lib.hid hd
  clear hg hd h
  rw [← hn] at hn4
  rw [← hn]
  have HN := Lib.hid hn; clear hn hne
  by_cases hv3 : v = 65533
  · have h3 := h3 hv3
    subst hv3
    go_enter Tryz.func82, Tryz.ntmps82
    go_wp2_with fail
    refine (Tryz.utf8_DecodeRuneInString s _ HG.out.1).mono ?_
    rintro e w1 ⟨rfl, hb⟩
    rw [HD.out]
    have HB := Lib.hid hb; clear hb
    go_wp2
    go_ret2
    exact ⟨⟨_, by omega, rfl⟩, HB.out⟩
  · have hv3 : ((v : Int) == 65533) = false := by simp; omega
    clear h3
    go_enter Tryz.func82, Tryz.ntmps82
    go_wp2_with fail
    refine (Tryz.utf8_DecodeRuneInString s _ HG.out.1).mono ?_
    rintro e w1 ⟨rfl, hb⟩
    rw [HD.out]
    have HB := Lib.hid hb; clear hb
    go_wp2
    go_ret2
    exact ⟨⟨_, by omega, rfl⟩, HB.out⟩

theorem valid_calls (s : ByteArray) (w : World) (hg : Glb w) (hs : s.size ≤ maxLen) :
    Calls Tryz.prog 73 #[.string s] w fun e w' => e = .returned (.bool (Cx.valid s.data.toList)) ∧ Below w.heap.size w w' := by
  have hv := valid_eq s.data.toList.length s.data.toList (Nat.le_refl _)
  rw [← hv]
  unfold maxLen at hs
  have HG := Lib.hid hg; clear hg hv
  go_enter Tryz.func73, Tryz.ntmps73
  go_wp2_with fail
  refine (Tryz.utf8_ValidString s _ (by omega) HG.out.1).mono ?_
  rintro e w1 ⟨rfl, hb⟩
  have HB := Lib.hid hb; clear hb
  go_wp2
  go_ret
  exact ⟨rfl, HB.out⟩

theorem runeOf_calls (r : Int) (w : World) (h0 : 0 ≤ r) (h1 : r ≤ 1114111) (hs : r < 55296 ∨ 57343 < r) :
    Calls Tryz.prog 125 #[.int .i64 r] w fun e w' => e = .returned (.int .i32 r) ∧ w = w' := by
  have hv : Lib.validRune r = true := by simp only [Lib.validRune, decide_eq_true_eq]; omega
  have HV := Lib.hid hv; clear hv hs
  go_enter Tryz.func125, Tryz.ntmps125
  go_wp2_with fail
  refine (Tryz.utf8_ValidRune _ _).mono ?_
  rintro e w1 ⟨rfl, rfl⟩
  rw [HV.out]
  go_wp2
  go_ret
  exact ⟨rfl, rfl⟩

theorem enc_encode (r : Nat) (h : r < 0x110000) (hs : ¬ (0xD800 ≤ r ∧ r < 0xE000)) : Utf8.encode r = ⟨(Cx.enc r).toArray⟩ := by
  have hv : Utf8.valid (r : Int) = true := by
    simp only [Utf8.valid, Bool.and_eq_true, Bool.or_eq_true, decide_eq_true_eq]; omega
  unfold Utf8.encode Cx.enc
  rw [hv]
  simp only [if_true, Int.toNat_natCast]
  repeat' split
  all_goals rfl
/-- 'Append' at the empty text. -/
theorem append_calls (r : Int) (w : World) (h0 : 0 ≤ r) (h1 : r ≤ 1114111) (hs : r < 55296 ∨ 57343 < r) :
    Calls Tryz.prog 110 #[.string ⟨#[]⟩, .int .i64 r] w fun e w' => e = .returned (.string ⟨(Cx.enc r.toNat).toArray⟩) ∧ w = w' := by
  have he := enc_encode r.toNat (by omega) (by omega)
  rw [Int.toNat_of_nonneg h0] at he
  rw [← he]
  have HE := Lib.hid he; clear he
  go_enter Tryz.func110, Tryz.ntmps110
  go_wp2_with fail
  refine (runeOf_calls r _ h0 h1 hs).mono ?_
  rintro e w1 ⟨rfl, rfl⟩
  have hsz := encode_size_le r
  go_wp2
  go_ret
  exact ⟨ret_str (by apply ByteArray.ext; simp), rfl⟩
end Go.Proofs.YtbdmepilmoomeaaGreatDoor
