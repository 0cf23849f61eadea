/- WALKS: Text. WALKS: write. WALKS: Right, Print. WALKS: slices.Index over a row of texts, Get. WALKS: json.Int: what int a number is. -/
import Derived.Test.YtejlddimokmgjaaGreatDoorGe
import Derived.Test.YtejlddimokmgjaaGreatDoorGb
import Derived.StillTailTactics
import Derived.Test.YtejlddimokmgjaaGreatDoorGf
import Derived.Test.YtejlddimokmgjaaGreatDoorGg
import Derived.Lib.SlicesS
import Derived.Test.YtejlddimokmgjaaGreatDoorShelf
import Derived.Shelf.Strings.SlTrimAscii
import Derived.Shelf.Strconv.AtoiAll
import Derived.Lib.SmallJoins
namespace Go.Proofs.YtejlddimokmgjaaGreatDoor
open Go.RowKit

theorem escB_cases (c : UInt8) :
    (∃ k : Nat, ∃ x : UInt8, k < 7 ∧ ix [34, 92, 8, 12, 10, 13, 9] c = k ∧ (⟨#[34, 92, 98, 102, 110, 114, 116]⟩ : ByteArray).extract k (k + 1) = ⟨#[x]⟩ ∧ Cx.escB c = [92, x]) ∨
    (ix [34, 92, 8, 12, 10, 13, 9] c = -1 ∧ c < 32 ∧ Cx.escB c = [92, 117, 48, 48, Cx.lowHex (c >>> 4), Cx.lowHex (c &&& 15)]) ∨
    (ix [34, 92, 8, 12, 10, 13, 9] c = -1 ∧ ¬ c < 32 ∧ Cx.escB c = [c]) := by
  by_cases h1 : c = 34
  · subst h1; exact .inl ⟨0, 34, by decide, by decide, by rw [extract_list]; rfl, rfl⟩
  by_cases h2 : c = 92
  · subst h2; exact .inl ⟨1, 92, by decide, by decide, by rw [extract_list]; rfl, rfl⟩
  by_cases h3 : c = 8
  · subst h3; exact .inl ⟨2, 98, by decide, by decide, by rw [extract_list]; rfl, rfl⟩
  by_cases h4 : c = 12
  · subst h4; exact .inl ⟨3, 102, by decide, by decide, by rw [extract_list]; rfl, rfl⟩
  by_cases h5 : c = 10
  · subst h5; exact .inl ⟨4, 110, by decide, by decide, by rw [extract_list]; rfl, rfl⟩
  by_cases h6 : c = 13
  · subst h6; exact .inl ⟨5, 114, by decide, by decide, by rw [extract_list]; rfl, rfl⟩
  by_cases h7 : c = 9
  · subst h7; exact .inl ⟨6, 116, by decide, by decide, by rw [extract_list]; rfl, rfl⟩
  have hix : ix [34, 92, 8, 12, 10, 13, 9] c = -1 := by
    refine ix_neg ?_
    simp only [List.mem_cons, List.not_mem_nil, or_false, not_or]
    exact ⟨h1, h2, h3, h4, h5, h6, h7⟩
  right
  by_cases h8 : c < 32
  · left
    refine ⟨hix, h8, ?_⟩
    unfold Cx.escB
    rw [if_neg h1, if_neg h2, if_neg h3, if_neg h4, if_neg h5, if_neg h6, if_neg h7, if_pos h8]
  · right
    refine ⟨hix, h8, ?_⟩
    unfold Cx.escB
    rw [if_neg h1, if_neg h2, if_neg h3, if_neg h4, if_neg h5, if_neg h6, if_neg h7, if_neg h8]

theorem Bld.below {B c : Nat} {l : List UInt8} {w w' : World} (h : Bld B c l w) (k : Below w.heap.size w w') : Bld B c l w' := by
  have h' : Bld B c l w := h
  have hl := h.lt
  have key : ∀ p, Lib.BuilderAtF 93 5 B c p (Lib.byteCells l) w → Lib.BuilderAtF 93 5 B c p (Lib.byteCells l) w' := by
    intro p ⟨hB, v, hbk, hown, hne⟩
    refine ⟨hB, v, (k.block _ hl.2).trans hbk, ?_, hne⟩
    refine hown.kept (row := some w.heap.size) ⟨k.os, k.tape, k.output, k.size, fun i hi _ => k.block i hi⟩ (.inr ?_)
    intro e
    have := hown.lt _ e; omega
  exact h'.imp (key _) (key _)

theorem and15_all : ∀ k : Fin 256, bits .and .u8 k.val 15 = ((k.val % 16 : Nat) : Int) := by decide +kernel
theorem and15 (c : UInt8) : bits .and .u8 c.toNat 15 = ((c.toNat % 16 : Nat) : Int) := and15_all ⟨c.toNat, c.toNat_lt⟩
theorem shr4 (c : UInt8) : c >>> 4 = UInt8.ofNat (c.toNat / 16) := by
  apply UInt8.toNat_inj.1
  rw [UInt8.toNat_shiftRight]
  have := c.toNat_lt
  simp [Nat.shiftRight_eq_div_pow]
  omega
theorem and15' (c : UInt8) : c &&& 15 = UInt8.ofNat (c.toNat % 16) := by
  apply UInt8.toNat_inj.1
  rw [UInt8.toNat_and]
  have h : c.toNat &&& 15 = c.toNat % 16 := Nat.and_two_pow_sub_one_eq_mod c.toNat 4
  simp [h]
  omega
theorem Bld.drew {B c : Nat} {l : List UInt8} {w : World} (h : Bld B c l w) : Bld B c l w.drew := h.drewN 1
theorem hex_digit (n : Nat) (h : n < 16) : (⟨#[48, 49, 50, 51, 52, 53, 54, 55, 56, 57, 97, 98, 99, 100, 101, 102]⟩ : ByteArray).extract n (n + 1) = ⟨#[Cx.lowHex (UInt8.ofNat n)]⟩ := by
  rw [extract_list]
  have key : ∀ k : Fin 16, (([48, 49, 50, 51, 52, 53, 54, 55, 56, 57, 97, 98, 99, 100, 101, 102] : List UInt8).drop k.val).take (k.val + 1 - k.val) = [Cx.lowHex (UInt8.ofNat k.val)] := by decide +kernel
  have := key ⟨n, h⟩
  simp only at this
  rw [this]

set_option maxRecDepth 100000 in
set_option maxHeartbeats 2000000 in
theorem jtext_calls (s : ByteArray) (w : World) (hs : s.size ≤ 100000000) :
    Calls Tryz.prog 50 #[.string s] w fun e w' => e = .returned (.string ⟨(Cx.jtext s.data.toList).toArray⟩) ∧ Below w.heap.size w w' := by
  have hba := Bld.fresh w
  have HB := Lib.hid hba
  have HW := Lib.hid ((Below.refl w.heap.size w).alloc (Nat.le_refl _) (.cells #[.pointer none, .slice none 0 0] 93))
  clear hba
  go_enter Tryz.func50, Tryz.ntmps50
  go_wp2_with fail
  refine (show Calls Tryz.prog 54 #[.pointer (some ⟨w.heap.size, 0, none⟩), .int .u8 34] _ _ from writeByte_calls w.heap.size w.heap.size [] 34 _ HB.out (by simp) (by simp)).mono ?_
  rintro e w1 ⟨rfl, k1, k2, _⟩
  have K1 := Lib.hid k1; have K2 := Lib.hid (HW.out.trans k2)
  clear k1 k2 HB HW
  go_wp2_with fail
  go_loopg [10] s.size (fun q x wr => ∃ k : Nat, x = .int .i64 k ∧ q = s.size - k ∧ k ≤ s.size ∧ Hid (Bld w.heap.size w.heap.size (34 :: Cx.esc (s.data.toList.take k)) wr) ∧ Hid (Below w.heap.size w wr))
  case atStart => exact ⟨0, rfl, rfl, Nat.zero_le _, K1.out, K2.out⟩
  case round =>
    obtain ⟨k, rfl, hq, hk, HB, HW⟩ := hrel
    have HQ := Lib.hid hq
    clear hq K1 K2
    rcases Nat.lt_or_ge k s.size with hlt | hge
    · have he : Cx.esc (s.data.toList.take (k + 1)) = Cx.esc (s.data.toList.take k) ++ Cx.escB s[k] := by
        rw [List.take_succ_eq_append_getElem (show k < s.data.toList.length from hlt)]
        show List.flatMap _ _ = _
        rw [List.flatMap_append]
        simp [Cx.esc]; rfl
      have hlen : (Cx.esc (s.data.toList.take k)).length ≤ 6 * k := by
        have := Cx.esc_length6 (s.data.toList.take k)
        have h2 := List.length_take_le k s.data.toList
        omega
      have HE := Lib.hid he
      clear he
      go_wp2_with fail
      refine (indexByte_calls _ _ _).mono ?_
      rintro e w' ⟨rfl, rfl⟩
      rcases escB_cases s[k] with ⟨j, x, hj, hix, hsl, hes⟩ | ⟨hix, h32, hes⟩ | ⟨hix, h32, hes⟩
      · have h' : ix (⟨#[34, 92, 8, 12, 10, 13, 9]⟩ : ByteArray).data.toList s[k] = j := hix
        rw [h']
        have HSL := Lib.hid hsl; have HES := Lib.hid hes
        clear h' hix hsl hes
        go_wp2_with fail
        rw [HSL.out]
        have hsz : (⟨#[92]⟩ ++ ⟨#[x]⟩ : ByteArray).size = 2 := by simp [ByteArray.size_append]; rfl
        have hl2 : (34 :: Cx.esc (s.data.toList.take k)).length + (⟨#[92]⟩ ++ ⟨#[x]⟩ : ByteArray).size ≤ 140737488355328 := by rw [hsz]; simp; omega
        refine (writeString_calls w.heap.size w.heap.size _ _ _ HB.out hl2 HW.out.size).mono ?_
        rintro e w5 ⟨⟨v5, rfl⟩, k1, k2, _⟩
        have K1 := Lib.hid k1; have K2 := Lib.hid (HW.out.trans k2)
        clear k1 k2
        go_wp2
        go_roundg (s.size - (k + 1))
        case measure => have := HQ.out; omega
        case rel =>
          refine ⟨k + 1, by go_num, rfl, by omega, ?_, K2.out⟩
          have := K1.out
          rw [HE.out, HES.out]
          rw [show ((⟨#[92]⟩ : ByteArray) ++ ⟨#[x]⟩).data.toList = [92, x] by simp] at this
          exact this
      · have h' : ix (⟨#[34, 92, 8, 12, 10, 13, 9]⟩ : ByteArray).data.toList s[k] = -1 := hix
        rw [h']
        have i32 : (s[k].toNat : Int) < 32 := by rw [UInt8.lt_iff_toNat_lt] at h32; simp at h32; omega
        have HES := Lib.hid hes
        clear h' hix hes h32
        go_wp2_with fail
        obtain ⟨p, hp⟩ : ∃ p : Nat, p = s[k].toNat / 16 := ⟨_, rfl⟩
        obtain ⟨q, hq⟩ : ∃ q : Nat, q = s[k].toNat % 16 := ⟨_, rfl⟩
        have hA : (s[k].toNat : Int) / 16 = (p : Int) := by rw [hp]; rfl
        have hB : bits .and .u8 (s[k].toNat : Int) 15 = (q : Int) := by rw [and15, hq]
        have hp2 : p < 2 := by omega
        have hq2 : q < 16 := by omega
        have hC : IntKind.u8.wrap ((p : Int) + 1) = (p : Int) + 1 := by unfold IntKind.wrap; simp [IntKind.signed, IntKind.bits]; omega
        have hC2 : IntKind.u8.wrap ((q : Int) + 1) = (q : Int) + 1 := by unfold IntKind.wrap; simp [IntKind.signed, IntKind.bits]; omega
        have hD : ((p : Int) + 1).toNat = p + 1 := by omega
        have hD2 : ((q : Int) + 1).toNat = q + 1 := by omega
        have hE : (p : Int) + 1 ≤ 16 := by omega
        have hE2 : (q : Int) + 1 ≤ 16 := by omega
        have hF : (p : Int) ≤ (p : Int) + 1 := by omega
        have hF2 : (q : Int) ≤ (q : Int) + 1 := by omega
        obtain ⟨a, ha⟩ : ∃ a : UInt8, a = Cx.lowHex (UInt8.ofNat p) := ⟨_, rfl⟩
        obtain ⟨b, hb⟩ : ∃ b : UInt8, b = Cx.lowHex (UInt8.ofNat q) := ⟨_, rfl⟩
        have hX : (⟨#[48, 49, 50, 51, 52, 53, 54, 55, 56, 57, 97, 98, 99, 100, 101, 102]⟩ : ByteArray).extract p (p + 1) = ⟨#[a]⟩ := by rw [hex_digit p (by omega), ha]
        have hX2 : (⟨#[48, 49, 50, 51, 52, 53, 54, 55, 56, 57, 97, 98, 99, 100, 101, 102]⟩ : ByteArray).extract q (q + 1) = ⟨#[b]⟩ := by rw [hex_digit q (by omega), hb]
        have hS : ∀ w0 : World, (Op.stringOp .add ⟨#[92, 117, 48, 48]⟩ ⟨#[a]⟩).run Tryz.prog w0 = .ok (.string ⟨#[92, 117, 48, 48, a]⟩) w0 := fun w0 => run_string_add_sum w0 _ _ (by simp [ByteArray.size])
        have hS2 : ∀ w0 : World, (Op.stringOp .add ⟨#[92, 117, 48, 48, a]⟩ ⟨#[b]⟩).run Tryz.prog w0 = .ok (.string ⟨#[92, 117, 48, 48, a, b]⟩) w0 := fun w0 => run_string_add_sum w0 _ _ (by simp [ByteArray.size])
        have HA := Lib.hid ha; have HB2 := Lib.hid hb
        have HP := Lib.hid hp; have HQ2 := Lib.hid hq
        clear hp hq ha hb
        go_still_tail 14, (by kernel_rfl)
        change wpList _ _ _ _ _ w'.drew
        clear hA hB hC hC2 hD hD2 hE hE2 hF hF2 hX hX2 hS hS2
        go_wp2_with fail
        refine (writeString_calls w.heap.size w.heap.size _ ⟨#[92, 117, 48, 48, a, b]⟩ _ HB.out.drew (by simp [ByteArray.size]; omega) HW.out.drew.size).mono ?_
        rintro e w5 ⟨⟨v5, rfl⟩, k1, k2, _⟩
        have K1 := Lib.hid k1; have K2 := Lib.hid (HW.out.drew.trans k2)
        clear k1 k2
        go_wp2
        go_roundg (s.size - (k + 1))
        case measure => have := HQ.out; omega
        case rel =>
          refine ⟨k + 1, by go_num, rfl, by omega, ?_, K2.out⟩
          have := K1.out
          rw [HE.out, HES.out, show s[k] >>> 4 = UInt8.ofNat p by rw [HP.out]; exact shr4 _, show s[k] &&& 15 = UInt8.ofNat q by rw [HQ2.out]; exact and15' _, ← HA.out, ← HB2.out]
          exact this
      · have h' : ix (⟨#[34, 92, 8, 12, 10, 13, 9]⟩ : ByteArray).data.toList s[k] = -1 := hix
        rw [h']
        have i32 : ¬ ((s[k].toNat : Int) < 32) := by rw [UInt8.lt_iff_toNat_lt] at h32; simp at h32; omega
        have HES := Lib.hid hes
        clear h' hix hes h32
        go_wp2_with fail
        refine (writeByte_calls w.heap.size w.heap.size _ s[k] _ HB.out (by simp; omega) HW.out.size).mono ?_
        rintro e w5 ⟨rfl, k1, k2, _⟩
        have K1 := Lib.hid k1; have K2 := Lib.hid (HW.out.trans k2)
        clear k1 k2
        go_wp2
        go_roundg (s.size - (k + 1))
        case measure => have := HQ.out; omega
        case rel => exact ⟨k + 1, by go_num, rfl, by omega, by have := K1.out; rw [HE.out, HES.out]; exact this, K2.out⟩
    · have hkk : k = s.size := by omega
      subst hkk
      go_wp2_with fail
      have hlen := Cx.esc_length6 s.data.toList
      rw [show s.data.toList.take s.size = s.data.toList from List.take_of_length_le (Nat.le_refl _)] at HB
      refine (show Calls Tryz.prog 54 #[.pointer (some ⟨w.heap.size, 0, none⟩), .int .u8 34] _ _ from writeByte_calls w.heap.size w.heap.size _ 34 _ HB.out (by simp at hlen ⊢; omega) HW.out.size).mono ?_
      rintro e w5 ⟨rfl, k1, k2, _⟩
      have K1 := Lib.hid k1; have K2 := Lib.hid (HW.out.trans k2)
      clear k1 k2
      go_wp2_with fail
      refine (string_calls w.heap.size w.heap.size _ _ K1.out K2.out.size).mono ?_
      rintro e w6 ⟨rfl, _, k2, _⟩
      have K3 := Lib.hid (K2.out.trans k2)
      clear k2
      go_wp2
      go_ret
      exact ⟨rfl, K3.out⟩
end Go.Proofs.YtejlddimokmgjaaGreatDoor
namespace Go.Proofs.YtejlddimokmgjaaGreatDoor
open Go.RowKit

/-- The cell of a name. -/
theorem JAt.name' {w : World} {ok : Nat → Prop} {x : Int} {is : Bool} {t : List UInt8} {ns : List (List UInt8)} {ks : List Cx.J} {x0 x1 x2 x3 x4 : Value} (h : JAt w ok (.mk x is t ns ks) [x0, x1, x2, x3, x4]) {i : Nat} {n : List UInt8} (hi : ns[i]? = some n) :
    ∃ g o cap, x3 = .slice (some ⟨g, o, none⟩) ns.length cap ∧ ok g ∧ g < w.heap.size ∧ w.cell? ⟨g, o + i, none⟩ = some (.string ⟨n.toArray⟩) := by
  unfold JAt at h
  obtain ⟨sn, sk, hcs, h1, _⟩ := h
  injection hcs with e0 hcs; injection hcs with e1 hcs; injection hcs with e2 hcs; injection hcs with e3 hcs
  subst e3
  rcases h1 with ⟨hz, _⟩ | ⟨_, g, o, cap, hv, _, hg, hl, hc⟩
  · rw [List.length_eq_zero_iff.1 hz] at hi; simp at hi
  · exact ⟨g, o, cap, hv, hg, hl, hc i (strV n) (by rw [List.getElem?_map, hi]; rfl)⟩

theorem rightK_get {d : Nat} : ∀ {ks : List Cx.J} {i : Nat} {k : Cx.J}, Cx.rightK d ks = true → ks[i]? = some k → Cx.right d k = true
  | [], _, _, _, h => by simp at h
  | a :: ks, i, k, hf, h => by
    unfold Cx.rightK at hf
    simp only [Bool.and_eq_true] at hf
    cases i with
    | zero => simp only [List.getElem?_cons_zero, Option.some.injEq] at h; subst h; exact hf.1
    | succ i => simp only [List.getElem?_cons_succ] at h; exact rightK_get hf.2 h

theorem drop_get {α : Type} {ks : List α} {i : Nat} {k : α} (hk : ks[i]? = some k) : ks.drop i = k :: ks.drop (i + 1) := by
  obtain ⟨hlt, he⟩ := List.getElem?_eq_some_iff.1 hk
  rw [List.drop_eq_getElem_cons hlt, he]

theorem formatBool_calls (b : Bool) (w : World) :
    Calls Tryz.prog 104 #[.bool b] w fun e w' => e = .returned (.string ⟨(if b then [116, 114, 117, 101] else [102, 97, 108, 115, 101] : List UInt8).toArray⟩) ∧ w = w' := by
  cases b
  · go_enter Tryz.func104, Tryz.ntmps104
    go_wp2
    go_ret
    exact ⟨rfl, rfl⟩
  · go_enter Tryz.func104, Tryz.ntmps104
    go_wp2
    go_ret
    exact ⟨rfl, rfl⟩

def WrPost (B c : Nat) (l : List UInt8) (w : World) (e : Ending) (w' : World) : Prop := e = .returned (.tuple #[]) ∧ Bld B c l w' ∧ Below B w w' ∧ Lib.OthersKept 5 (some c) w w'
/-- What 'write' does with values of at most so many nodes. -/
def WrIH (B c N : Nat) : Prop := ∀ (v : Cx.J) (cs : List Value) (d : Nat) (l : List UInt8) (w : World), Cx.nodes v ≤ N → Cx.right d v = true → fit 100000 v → JAt w (fun g => g < B) v cs → Bld B c l w → B ≤ w.heap.size → l.length + (Cx.pr v).length ≤ 140737488355328 →
    Calls Tryz.prog 60 #[.pointer (some ⟨c, 0, none⟩), .agg cs.toArray] w (WrPost B c (l ++ Cx.pr v) w)

theorem Bld.alloc {B c : Nat} {l : List UInt8} {w : World} (h : Bld B c l w) (o : Obj) : Bld B c l (w.alloc o) := h.below ((Below.refl _ _).alloc (Nat.le_refl _) _)

set_option maxRecDepth 100000 in
set_option maxHeartbeats 2000000 in
theorem write_leaf (B c : Nat) (k : Int) (is : Bool) (t : List UInt8) (ns : List (List UInt8)) (ks : List Cx.J) (a : Option Addr) (nc : Nat) (a' : Option Addr) (kc : Nat) (_d : Nat) (l : List UInt8) (w : World) (hk : k = 1 ∨ k = 2 ∨ k = 3 ∨ k = 4)
    (hf : fit 100000 (.mk k is t ns ks)) (hb : Bld B c l w) (hB : B ≤ w.heap.size) (hlen : l.length + (Cx.pr (.mk k is t ns ks)).length ≤ 140737488355328) :
    Calls Tryz.prog 60 #[.pointer (some ⟨c, 0, none⟩), .agg #[.int .i64 k, .bool is, .string ⟨t.toArray⟩, .slice a ns.length nc, .slice a' ks.length kc]] w (WrPost B c (l ++ Cx.pr (.mk k is t ns ks)) w) := by
  have hb1 := hb.alloc (.cells #[.int .i64 k, .bool is, .string ⟨t.toArray⟩, .slice a ns.length nc, .slice a' ks.length kc] 48)
  have hbb := (Below.refl B w).alloc hB (.cells #[.int .i64 k, .bool is, .string ⟨t.toArray⟩, .slice a ns.length nc, .slice a' ks.length kc] 48)
  have hok := (Lib.OthersKept.refl 5 (some c) w).alloc (.cells #[.int .i64 k, .bool is, .string ⟨t.toArray⟩, .slice a ns.length nc, .slice a' ks.length kc] 48)
  have hcl := hb.lt
  have htl : t.length ≤ 100000 := hf.1
  have H1 := Lib.hid hb1; have HBB := Lib.hid hbb; have HOK := Lib.hid hok; have HL := Lib.hid hlen; have HBs := Lib.hid hB
  clear hb hb1 hbb hok hlen hf
  rcases hk with rfl | rfl | rfl | rfl
  · have hp : Cx.pr (.mk 1 is t ns ks) = [110, 117, 108, 108] := by unfold Cx.pr; simp
    have hl := HL.out
    rw [hp] at hl ⊢
    have HL2 := Lib.hid hl
    clear hl hp HL
    go_enter Tryz.func60, Tryz.ntmps60
    go_wp2_with fail
    refine (writeString_calls B c l ⟨#[110, 117, 108, 108]⟩ _ H1.out (by have := HL2.out; simp at this; simp [ByteArray.size]; omega) (Nat.le_trans HBs.out HBB.out.size)).mono ?_
    rintro e w5 ⟨⟨v5, rfl⟩, k1, k2, k3⟩
    have K1 := Lib.hid k1; have K2 := Lib.hid (HBB.out.trans k2); have K3 := Lib.hid (HOK.out.trans k3)
    clear k1 k2 k3
    go_wp2
    go_end0
    exact ⟨rfl, K1.out, K2.out, K3.out⟩
  · have hp : Cx.pr (.mk 2 is t ns ks) = (if is then [116, 114, 117, 101] else [102, 97, 108, 115, 101]) := by unfold Cx.pr; simp
    have hl := HL.out
    rw [hp] at hl ⊢
    have HL2 := Lib.hid hl
    clear hl hp HL
    obtain ⟨x, hx⟩ : ∃ x : List UInt8, x = (if is then [116, 114, 117, 101] else [102, 97, 108, 115, 101]) := ⟨_, rfl⟩
    have hfb := formatBool_calls is
    rw [← hx] at hfb ⊢
    have HL3 : Hid (l.length + x.length ≤ 140737488355328) := by rw [hx]; exact HL2.out
    have HFB := Lib.hid hfb
    clear hx hfb HL2
    go_enter Tryz.func60, Tryz.ntmps60
    go_wp2_with fail
    refine (HFB.out _).mono ?_
    rintro e w4 ⟨rfl, rfl⟩
    go_wp2_with fail
    refine (writeString_calls B c l ⟨x.toArray⟩ _ H1.out (by have := HL3.out; rw [show (⟨x.toArray⟩ : ByteArray).size = x.length by simp [ByteArray.size]]; exact this) (Nat.le_trans HBs.out HBB.out.size)).mono ?_
    rintro e w5 ⟨⟨v5, rfl⟩, k1, k2, k3⟩
    have K1 := Lib.hid k1; have K2 := Lib.hid (HBB.out.trans k2); have K3 := Lib.hid (HOK.out.trans k3)
    clear k1 k2 k3
    go_wp2
    go_end0
    exact ⟨rfl, by simpa using K1.out, K2.out, K3.out⟩
  · have hp : Cx.pr (.mk 3 is t ns ks) = t := by unfold Cx.pr; simp
    have hl := HL.out
    rw [hp] at hl ⊢
    have HL2 := Lib.hid hl
    clear hl hp HL
    go_enter Tryz.func60, Tryz.ntmps60
    go_wp2_with fail
    refine (writeString_calls B c l ⟨t.toArray⟩ _ H1.out (by have := HL2.out; rw [show (⟨t.toArray⟩ : ByteArray).size = t.length by simp [ByteArray.size]]; exact this) (Nat.le_trans HBs.out HBB.out.size)).mono ?_
    rintro e w5 ⟨⟨v5, rfl⟩, k1, k2, k3⟩
    have K1 := Lib.hid k1; have K2 := Lib.hid (HBB.out.trans k2); have K3 := Lib.hid (HOK.out.trans k3)
    clear k1 k2 k3
    go_wp2
    go_end0
    exact ⟨rfl, by simpa using K1.out, K2.out, K3.out⟩
  · have hp : Cx.pr (.mk 4 is t ns ks) = Cx.jtext t := by unfold Cx.pr; simp
    have hl := HL.out
    rw [hp] at hl ⊢
    have HL2 := Lib.hid hl
    clear hl hp HL
    go_enter Tryz.func60, Tryz.ntmps60
    go_wp2_with fail
    refine (jtext_calls ⟨t.toArray⟩ _ (by rw [show (⟨t.toArray⟩ : ByteArray).size = t.length by simp [ByteArray.size]]; omega)).mono ?_
    rintro e w4 ⟨rfl, hb4⟩
    rw [show (⟨t.toArray⟩ : ByteArray).data.toList = t by simp]
    obtain ⟨x, hx⟩ : ∃ x : List UInt8, x = Cx.jtext t := ⟨_, rfl⟩
    rw [← hx]
    have HL3 : Hid (l.length + x.length ≤ 140737488355328) := by rw [hx]; exact HL2.out
    have H4 := Lib.hid (H1.out.below hb4); have HBB4 := Lib.hid (HBB.out.trans (hb4.mono (Nat.le_trans HBs.out HBB.out.size)))
    have HOK4 := Lib.hid (HOK.out.trans (fun i o hi _ _ => (hb4.block i (heap_lt hi)).trans hi))
    have HX := Lib.hid hx
    clear hx HL2 hb4
    go_wp2_with fail
    refine (writeString_calls B c l ⟨x.toArray⟩ _ H4.out (by have := HL3.out; rw [show (⟨x.toArray⟩ : ByteArray).size = x.length by simp [ByteArray.size]]; exact this) (Nat.le_trans HBs.out HBB4.out.size)).mono ?_
    rintro e w5 ⟨⟨v5, rfl⟩, k1, k2, k3⟩
    have K1 := Lib.hid k1; have K2 := Lib.hid (HBB4.out.trans k2); have K3 := Lib.hid (HOK4.out.trans k3)
    clear k1 k2 k3
    go_wp2
    go_end0
    exact ⟨rfl, by rw [← HX.out]; simpa using K1.out, K2.out, K3.out⟩

set_option maxRecDepth 100000 in
set_option maxHeartbeats 2000000 in
theorem write_list (B c N : Nat) (ih : WrIH B c N) (is : Bool) (t : List UInt8) (ns : List (List UInt8)) (ks : List Cx.J) (a : Option Addr) (nc : Nat) (a' : Option Addr) (kc : Nat) (d : Nat) (l : List UInt8) (w : World)
    (hN : Cx.nodes (.mk 5 is t ns ks) ≤ N + 1) (hr : Cx.right d (.mk 5 is t ns ks) = true) (hf : fit 100000 (.mk 5 is t ns ks)) (hj : JAt w (fun g => g < B) (.mk 5 is t ns ks) [.int .i64 5, .bool is, .string ⟨t.toArray⟩, .slice a ns.length nc, .slice a' ks.length kc])
    (hb : Bld B c l w) (hB : B ≤ w.heap.size) (hlen : l.length + (Cx.pr (.mk 5 is t ns ks)).length ≤ 140737488355328) :
    Calls Tryz.prog 60 #[.pointer (some ⟨c, 0, none⟩), .agg #[.int .i64 5, .bool is, .string ⟨t.toArray⟩, .slice a ns.length nc, .slice a' ks.length kc]] w (WrPost B c (l ++ Cx.pr (.mk 5 is t ns ks)) w) := by
  have hrk : Cx.rightK (d + 1) ks = true := by
    unfold Cx.right at hr
    simp at hr
    exact hr.2
  have hp : Cx.pr (.mk 5 is t ns ks) = 91 :: (Cx.prK false true ns ks ++ [93]) := by unfold Cx.pr; simp
  rw [hp] at hlen ⊢
  obtain ⟨TOT, hTOT⟩ : ∃ TOT, TOT = l ++ 91 :: (Cx.prK false true ns ks ++ [93]) := ⟨_, rfl⟩
  have hTL : TOT.length ≤ 140737488355328 := by rw [hTOT, List.length_append]; exact hlen
  rw [← hTOT]
  have hb1 := hb.alloc (.cells #[.int .i64 5, .bool is, .string ⟨t.toArray⟩, .slice a ns.length nc, .slice a' ks.length kc] 48)
  have hbb := (Below.refl B w).alloc hB (.cells #[.int .i64 5, .bool is, .string ⟨t.toArray⟩, .slice a ns.length nc, .slice a' ks.length kc] 48)
  have hok := (Lib.OthersKept.refl 5 (some c) w).alloc (.cells #[.int .i64 5, .bool is, .string ⟨t.toArray⟩, .slice a ns.length nc, .slice a' ks.length kc] 48)
  have hbox := heap_alloc_new w (.cells #[.int .i64 5, .bool is, .string ⟨t.toArray⟩, .slice a ns.length nc, .slice a' ks.length kc] 48)
  have hcl := hb.lt
  have hne : w.heap.size ≠ c := by omega
  have hkl : ks.length ≤ 100000 := hf.2.2.2.1
  have H1 := Lib.hid hb1; have HBB := Lib.hid hbb; have HOK := Lib.hid hok; have HBs := Lib.hid hB; have HBX := Lib.hid hbox; have HRK := Lib.hid hrk; have HTOT := Lib.hid hTOT; have HTL := Lib.hid hTL
  have IH := Lib.hid ih; have HN := Lib.hid hN; have F := Lib.hid hf; have J := Lib.hid hj; have HNE := Lib.hid hne
  clear hb hb1 hbb hok hlen hf hbox hrk hp hTOT hTL ih hN hr hj hne hB
  go_enter Tryz.func60, Tryz.ntmps60
  go_wp2_with fail
  refine (writeString_calls B c l ⟨#[91]⟩ _ H1.out (by have := HTL.out; rw [HTOT.out] at this; simp at this; simp [ByteArray.size]; omega) (Nat.le_trans HBs.out HBB.out.size)).mono ?_
  rintro e w1 ⟨⟨v1, rfl⟩, k1, k2, k3⟩
  have K1 := Lib.hid k1; have K2 := Lib.hid (HBB.out.trans k2); have K3 := Lib.hid (HOK.out.trans k3)
  have K4 := Lib.hid (k3 _ _ HBX.out (by intro e; exact HNE.out (Option.some.inj e)) (by intro _ _ e; injection e with _ e _; cases e))
  clear k1 k2 k3 H1 HBB HOK HBX
  obtain ⟨q0, q1, q2, q3, q4, qf⟩ := cells5 K4.out
  go_wp2_with fail
  go_loopg [19] (ks.length) (fun q z wr => ∃ (i : Nat) (acc : List UInt8), z = .int .i64 i ∧ q = ks.length - i ∧ i ≤ ks.length ∧ Hid (acc ++ (Cx.prK false (decide (i = 0)) (ns.drop i) (ks.drop i) ++ [93]) = TOT) ∧ Hid (Bld B c acc wr) ∧ Hid (Below B w wr) ∧ Hid (Lib.OthersKept 5 (some c) w wr) ∧ Hid (wr.heap[w.heap.size]? = some (.cells #[.int .i64 5, .bool is, .string ⟨t.toArray⟩, .slice a ns.length nc, .slice a' ks.length kc] 48 (0, 0))))
  case atStart => exact ⟨0, l ++ [91], rfl, rfl, Nat.zero_le _, Lib.hid (by rw [HTOT.out]; simp), K1, K2, K3, K4⟩
  case round =>
    clear K1 K2 K3 K4 q0 q1 q2 q3 q4 qf
    obtain ⟨i, acc, rfl, hq, hi, HACC, HBL, HBW, HOK, HBX⟩ := hrel
    have HQ := Lib.hid hq
    clear hq
    obtain ⟨q0, q1, q2, q3, q4, qf⟩ := cells5 HBX.out
    have hsz : w.heap.size < wr.heap.size := heap_lt HBX.out
    rcases Nat.lt_or_ge i ks.length with hlt | hge
    · obtain ⟨k, hk⟩ : ∃ k, ks[i]? = some k := ⟨ks[i], by simp [hlt]⟩
      have hdr := drop_get hk
      obtain ⟨g, o, cap, hv, hgB, hgl, kb0, kb1, kb2, kb3, hkj, d0, d1, d2, d3, d4⟩ := J.out.kid' hk
      injection hv with ha _ hc
      subst ha hc
      have hacc := HACC.out
      rw [hdr] at hacc
      unfold Cx.prK at hacc
      rw [if_neg (show ¬ (false = true) by decide), List.nil_append] at hacc
      have KJ := Lib.hid hkj; have HK := Lib.hid hk
      have HRK1 := Lib.hid (rightK_get HRK.out hk)
      have HF1 := Lib.hid (fitK_get F.out.2.2.2.2 hk)
      have HN1 : Hid (Cx.nodes k ≤ N) := Lib.hid (by have h1 := HN.out; have h2 := (nodesK_get hk).2; simp only [Cx.nodes] at h1; omega)
      by_cases h0 : i = 0
      · have hz : ¬ ((0 : Int) < (i : Int)) := by omega
        have hacc2 : acc ++ (Cx.pr k ++ (Cx.prK false false (ns.drop i).tail (ks.drop (i + 1)) ++ [93])) = TOT := by
          rw [← hacc]; simp [h0]
        have b0 := (HBW.out.cell (p := ⟨g, o + i * 5, none⟩) hgB).trans d0
        have b1 := (HBW.out.cell (p := ⟨g, o + i * 5 + 1, none⟩) hgB).trans d1
        have b2 := (HBW.out.cell (p := ⟨g, o + i * 5 + 2, none⟩) hgB).trans d2
        have b3 := (HBW.out.cell (p := ⟨g, o + i * 5 + 3, none⟩) hgB).trans d3
        have b4 := (HBW.out.cell (p := ⟨g, o + i * 5 + 4, none⟩) hgB).trans d4
        have HACC2 := Lib.hid hacc2
        have hal : acc.length + (Cx.pr k).length ≤ 140737488355328 := by
          have := congrArg List.length hacc2; have := HTL.out
          simp only [List.length_append] at *; omega
        have HAL := Lib.hid hal
        clear hacc hacc2 hal HACC hkj hk hdr d0 d1 d2 d3 d4 h0
        go_wp2_with fail
        have hb0 : Below B w (wr.alloc (.cells #[.int .i64 k.kind, .bool k.is, .string ⟨k.text.toArray⟩, .slice kb0 k.names.length kb1, .slice kb2 k.kids.length kb3] 48)) := HBW.out.alloc (Nat.le_trans HBs.out HBW.out.size) _
        refine (IH.out k [.int .i64 k.kind, .bool k.is, .string ⟨k.text.toArray⟩, .slice kb0 k.names.length kb1, .slice kb2 k.kids.length kb3] (d + 1) acc _ HN1.out HRK1.out HF1.out (KJ.out.below hb0) (HBL.out.alloc _) (Nat.le_trans HBs.out hb0.size) HAL.out).mono ?_
        rintro e w5 ⟨rfl, c1, c2, c3⟩
        have C1 := Lib.hid c1; have C2 := Lib.hid (hb0.trans c2); have C3 := Lib.hid ((HOK.out.alloc _).trans c3)
        have C4 := Lib.hid (c3 _ _ ((Below.heap_alloc _ _ _ hsz).trans HBX.out) (by intro e; exact HNE.out (Option.some.inj e)) (by intro _ _ e; injection e with _ e _; cases e))
        clear c1 c2 c3 hb0 b0 b1 b2 b3 b4
        go_wp2
        go_roundg (ks.length - (i + 1))
        case measure => have := HQ.out; omega
        case rel =>
          refine ⟨i + 1, acc ++ Cx.pr k, by go_num, rfl, by omega, Lib.hid ?_, C1, C2, C3, C4⟩
          rw [← HACC2.out, decide_eq_false (by omega), ← List.tail_drop]
          simp
      · have hz : (0 : Int) < (i : Int) := by omega
        have hacc2 : (acc ++ [44]) ++ (Cx.pr k ++ (Cx.prK false false (ns.drop i).tail (ks.drop (i + 1)) ++ [93])) = TOT := by
          rw [← hacc, decide_eq_false h0]; simp
        have HACC2 := Lib.hid hacc2
        have hal : (acc ++ [44]).length + (Cx.pr k).length ≤ 140737488355328 := by
          have := congrArg List.length hacc2; have := HTL.out
          simp only [List.length_append] at *; omega
        have HAL := Lib.hid hal
        have b0 := (HBW.out.cell (p := ⟨g, o + i * 5, none⟩) hgB).trans d0
        have b1 := (HBW.out.cell (p := ⟨g, o + i * 5 + 1, none⟩) hgB).trans d1
        have b2 := (HBW.out.cell (p := ⟨g, o + i * 5 + 2, none⟩) hgB).trans d2
        have b3 := (HBW.out.cell (p := ⟨g, o + i * 5 + 3, none⟩) hgB).trans d3
        have b4 := (HBW.out.cell (p := ⟨g, o + i * 5 + 4, none⟩) hgB).trans d4
        have hal1 : acc.length + 1 ≤ 140737488355328 := by simp only [List.length_append, List.length_singleton] at hal; omega
        have HAL1 := Lib.hid hal1
        clear hacc hacc2 hal hal1 HACC hkj hk hdr d0 d1 d2 d3 d4 h0
        go_wp2_with fail
        have hb0 : Below B w (wr.alloc (.cells #[.int .i64 k.kind, .bool k.is, .string ⟨k.text.toArray⟩, .slice kb0 k.names.length kb1, .slice kb2 k.kids.length kb3] 48)) := HBW.out.alloc (Nat.le_trans HBs.out HBW.out.size) _
        have hx0 := (Below.heap_alloc _ (.cells #[.int .i64 k.kind, .bool k.is, .string ⟨k.text.toArray⟩, .slice kb0 k.names.length kb1, .slice kb2 k.kids.length kb3] 48) _ hsz).trans HBX.out
        have hy0 := heap_alloc_new wr (.cells #[.int .i64 k.kind, .bool k.is, .string ⟨k.text.toArray⟩, .slice kb0 k.names.length kb1, .slice kb2 k.kids.length kb3] 48)
        refine (writeByte_calls B c acc 44 _ (HBL.out.alloc _) HAL1.out (Nat.le_trans HBs.out hb0.size)).mono ?_
        rintro e w4 ⟨rfl, c1, c2, c3⟩
        have C1 := Lib.hid c1; have C2 := Lib.hid (hb0.trans c2); have C3 := Lib.hid ((HOK.out.alloc _).trans c3)
        have C4 := Lib.hid (c3 _ _ hx0 (by intro e; exact HNE.out (Option.some.inj e)) (by intro _ _ e; injection e with _ e _; cases e))
        have hcw : wr.heap.size ≠ c := by have := HBL.out.lt; omega
        have C5 := Lib.hid (c3 _ _ hy0 (by intro e; exact hcw (Option.some.inj e)) (by intro _ _ e; injection e with _ e _; cases e))
        clear c1 c2 c3 hb0 hx0 hy0 hcw b0 b1 b2 b3 b4 q0 q1 q2 q3 q4 qf
        obtain ⟨q0, q1, q2, q3, q4, qf⟩ := cells5 C4.out
        obtain ⟨p0, p1, p2, p3, p4, pf⟩ := cells5 C5.out
        go_wp2_with fail
        refine (IH.out k [.int .i64 k.kind, .bool k.is, .string ⟨k.text.toArray⟩, .slice kb0 k.names.length kb1, .slice kb2 k.kids.length kb3] (d + 1) (acc ++ [44]) _ HN1.out HRK1.out HF1.out (KJ.out.below C2.out) C1.out (Nat.le_trans HBs.out C2.out.size) HAL.out).mono ?_
        rintro e w5 ⟨rfl, e1, e2, e3⟩
        have E1 := Lib.hid e1; have E2 := Lib.hid (C2.out.trans e2); have E3 := Lib.hid (C3.out.trans e3)
        have E4 := Lib.hid (e3 _ _ C4.out (by intro e; exact HNE.out (Option.some.inj e)) (by intro _ _ e; injection e with _ e _; cases e))
        clear e1 e2 e3 p0 p1 p2 p3 p4 pf q0 q1 q2 q3 q4 qf
        go_wp2
        go_roundg (ks.length - (i + 1))
        case measure => have := HQ.out; omega
        case rel =>
          refine ⟨i + 1, (acc ++ [44]) ++ Cx.pr k, by go_num, rfl, by omega, Lib.hid ?_, E1, E2, E3, E4⟩
          rw [← HACC2.out, decide_eq_false (by omega), ← List.tail_drop]
          simp
    · have hik : i = ks.length := by omega
      subst hik
      have hacc := HACC.out
      rw [List.drop_length] at hacc
      unfold Cx.prK at hacc
      rw [List.nil_append] at hacc
      have HACC2 := Lib.hid hacc
      have hal : acc.length + 1 ≤ 140737488355328 := by
        have := congrArg List.length hacc; have := HTL.out
        simp only [List.length_append, List.length_singleton] at *; omega
      have HAL := Lib.hid hal
      clear hacc hal
      go_wp2_with fail
      refine (writeString_calls B c acc ⟨#[93]⟩ _ HBL.out HAL.out (Nat.le_trans HBs.out HBW.out.size)).mono ?_
      rintro e w5 ⟨⟨v5, rfl⟩, e1, e2, e3⟩
      have E1 := Lib.hid e1; have E2 := Lib.hid (HBW.out.trans e2); have E3 := Lib.hid (HOK.out.trans e3)
      clear e1 e2 e3
      go_wp2
      go_end0
      exact ⟨rfl, by rw [← HACC2.out]; exact E1.out, E2.out, E3.out⟩
set_option maxRecDepth 100000 in
set_option maxHeartbeats 2000000 in
theorem write_object (B c N : Nat) (ih : WrIH B c N) (is : Bool) (t : List UInt8) (ns : List (List UInt8)) (ks : List Cx.J) (a : Option Addr) (nc : Nat) (a' : Option Addr) (kc : Nat) (d : Nat) (l : List UInt8) (w : World)
    (hN : Cx.nodes (.mk 6 is t ns ks) ≤ N + 1) (hr : Cx.right d (.mk 6 is t ns ks) = true) (hf : fit 100000 (.mk 6 is t ns ks)) (hj : JAt w (fun g => g < B) (.mk 6 is t ns ks) [.int .i64 6, .bool is, .string ⟨t.toArray⟩, .slice a ns.length nc, .slice a' ks.length kc])
    (hb : Bld B c l w) (hB : B ≤ w.heap.size) (hlen : l.length + (Cx.pr (.mk 6 is t ns ks)).length ≤ 140737488355328) :
    Calls Tryz.prog 60 #[.pointer (some ⟨c, 0, none⟩), .agg #[.int .i64 6, .bool is, .string ⟨t.toArray⟩, .slice a ns.length nc, .slice a' ks.length kc]] w (WrPost B c (l ++ Cx.pr (.mk 6 is t ns ks)) w) := by
  have hrk : Cx.rightK (d + 1) ks = true := by
    unfold Cx.right at hr
    simp at hr
    exact hr.2
  have hnk : ns.length = ks.length := by
    unfold Cx.right at hr
    simp at hr
    exact hr.1.1.1.1.1
  have hp : Cx.pr (.mk 6 is t ns ks) = 123 :: (Cx.prK true true ns ks ++ [125]) := by unfold Cx.pr; simp
  rw [hp] at hlen ⊢
  obtain ⟨TOT, hTOT⟩ : ∃ TOT, TOT = l ++ 123 :: (Cx.prK true true ns ks ++ [125]) := ⟨_, rfl⟩
  have hTL : TOT.length ≤ 140737488355328 := by rw [hTOT, List.length_append]; exact hlen
  rw [← hTOT]
  have hb1 := hb.alloc (.cells #[.int .i64 6, .bool is, .string ⟨t.toArray⟩, .slice a ns.length nc, .slice a' ks.length kc] 48)
  have hbb := (Below.refl B w).alloc hB (.cells #[.int .i64 6, .bool is, .string ⟨t.toArray⟩, .slice a ns.length nc, .slice a' ks.length kc] 48)
  have hok := (Lib.OthersKept.refl 5 (some c) w).alloc (.cells #[.int .i64 6, .bool is, .string ⟨t.toArray⟩, .slice a ns.length nc, .slice a' ks.length kc] 48)
  have hbox := heap_alloc_new w (.cells #[.int .i64 6, .bool is, .string ⟨t.toArray⟩, .slice a ns.length nc, .slice a' ks.length kc] 48)
  have hcl := hb.lt
  have hne : w.heap.size ≠ c := by omega
  have hkl : ks.length ≤ 100000 := hf.2.2.2.1
  have H1 := Lib.hid hb1; have HBB := Lib.hid hbb; have HOK := Lib.hid hok; have HBs := Lib.hid hB; have HBX := Lib.hid hbox; have HRK := Lib.hid hrk; have HTOT := Lib.hid hTOT; have HTL := Lib.hid hTL
  have IH := Lib.hid ih; have HN := Lib.hid hN; have F := Lib.hid hf; have J := Lib.hid hj; have HNE := Lib.hid hne; have HNK := Lib.hid hnk
  clear hb hb1 hbb hok hlen hf hbox hrk hp hTOT hTL ih hN hr hj hne hB hnk
  go_enter Tryz.func60, Tryz.ntmps60
  go_wp2_with fail
  refine (writeString_calls B c l ⟨#[123]⟩ _ H1.out (by have := HTL.out; rw [HTOT.out] at this; simp at this; simp [ByteArray.size]; omega) (Nat.le_trans HBs.out HBB.out.size)).mono ?_
  rintro e w1 ⟨⟨v1, rfl⟩, k1, k2, k3⟩
  have K1 := Lib.hid k1; have K2 := Lib.hid (HBB.out.trans k2); have K3 := Lib.hid (HOK.out.trans k3)
  have K4 := Lib.hid (k3 _ _ HBX.out (by intro e; exact HNE.out (Option.some.inj e)) (by intro _ _ e; injection e with _ e _; cases e))
  clear k1 k2 k3 H1 HBB HOK HBX
  obtain ⟨q0, q1, q2, q3, q4, qf⟩ := cells5 K4.out
  go_wp2_with fail
  go_loopg [19] (ks.length) (fun q z wr => ∃ (i : Nat) (acc : List UInt8), z = .int .i64 i ∧ q = ks.length - i ∧ i ≤ ks.length ∧ Hid (acc ++ (Cx.prK true (decide (i = 0)) (ns.drop i) (ks.drop i) ++ [125]) = TOT) ∧ Hid (Bld B c acc wr) ∧ Hid (Below B w wr) ∧ Hid (Lib.OthersKept 5 (some c) w wr) ∧ Hid (wr.heap[w.heap.size]? = some (.cells #[.int .i64 6, .bool is, .string ⟨t.toArray⟩, .slice a ns.length nc, .slice a' ks.length kc] 48 (0, 0))))
  case atStart => exact ⟨0, l ++ [123], rfl, rfl, Nat.zero_le _, Lib.hid (by rw [HTOT.out]; simp), K1, K2, K3, K4⟩
  case round =>
    clear K1 K2 K3 K4 q0 q1 q2 q3 q4 qf
    obtain ⟨i, acc, rfl, hq, hi, HACC, HBL, HBW, HOK, HBX⟩ := hrel
    have HQ := Lib.hid hq
    clear hq
    obtain ⟨q0, q1, q2, q3, q4, qf⟩ := cells5 HBX.out
    have hsz : w.heap.size < wr.heap.size := heap_lt HBX.out
    rcases Nat.lt_or_ge i ks.length with hlt | hge
    · obtain ⟨k, hk⟩ : ∃ k, ks[i]? = some k := ⟨ks[i], by simp [hlt]⟩
      have hdr := drop_get hk
      obtain ⟨g, o, cap, hv, hgB, hgl, kb0, kb1, kb2, kb3, hkj, d0, d1, d2, d3, d4⟩ := J.out.kid' hk
      injection hv with ha _ hc
      subst ha hc
      obtain ⟨n, hn⟩ : ∃ n, ns[i]? = some n := ⟨ns[i]'(by have := HNK.out; omega), List.getElem?_eq_getElem _⟩
      obtain ⟨g', o', cap', hv', hgB', hgl', hnc⟩ := J.out.name' hn
      injection hv' with ha' _ hc'
      subst ha' hc'
      have hdn := drop_get hn
      have hacc := HACC.out
      rw [hdr, hdn] at hacc
      unfold Cx.prK at hacc
      rw [if_pos rfl, List.headD_cons, List.tail_cons] at hacc
      have hnl : n.length ≤ 100000 := F.out.2.2.1 n (List.mem_of_getElem? hn)
      have hjl : (Cx.jtext n).length ≤ 600002 := by have := Cx.jtext_length n; omega
      have hgs : g' < wr.heap.size := by omega
      have b5 := (HBW.out.cell (p := ⟨g', o' + i, none⟩) hgB').trans hnc
      have B5 := Lib.hid b5
      have hin : (i : Int) < (ns.length : Int) := by have := HNK.out; omega
      have KJ := Lib.hid hkj; have HK := Lib.hid hk
      have HRK1 := Lib.hid (rightK_get HRK.out hk)
      have HF1 := Lib.hid (fitK_get F.out.2.2.2.2 hk)
      have HN1 : Hid (Cx.nodes k ≤ N) := Lib.hid (by have h1 := HN.out; have h2 := (nodesK_get hk).2; simp only [Cx.nodes] at h1; omega)
      by_cases h0 : i = 0
      · have hz : ¬ ((0 : Int) < (i : Int)) := by omega
        have hacc2 : (acc ++ (Cx.jtext n ++ [58])) ++ (Cx.pr k ++ (Cx.prK true false (ns.drop (i + 1)) (ks.drop (i + 1)) ++ [125])) = TOT := by
          rw [← hacc]; simp [h0]
        have HACC2 := Lib.hid hacc2
        have hal : (acc ++ (Cx.jtext n ++ [58])).length + (Cx.pr k).length ≤ 140737488355328 := by
          have := congrArg List.length hacc2; have := HTL.out
          simp only [List.length_append] at *; omega
        have halt : acc.length + ((Cx.jtext n).length + 1) ≤ 140737488355328 := by
          simp only [List.length_append, List.length_singleton] at hal; omega
        have HAL := Lib.hid hal; have HALT := Lib.hid halt
        have b0 := (HBW.out.cell (p := ⟨g, o + i * 5, none⟩) hgB).trans d0
        have b1 := (HBW.out.cell (p := ⟨g, o + i * 5 + 1, none⟩) hgB).trans d1
        have b2 := (HBW.out.cell (p := ⟨g, o + i * 5 + 2, none⟩) hgB).trans d2
        have b3 := (HBW.out.cell (p := ⟨g, o + i * 5 + 3, none⟩) hgB).trans d3
        have b4 := (HBW.out.cell (p := ⟨g, o + i * 5 + 4, none⟩) hgB).trans d4
        clear hacc hacc2 hal halt HACC hkj hk hdr hn hnc hdn d0 d1 d2 d3 d4 h0
        go_wp2_with fail
        have hb0 : Below B w (wr.alloc (.cells #[.int .i64 k.kind, .bool k.is, .string ⟨k.text.toArray⟩, .slice kb0 k.names.length kb1, .slice kb2 k.kids.length kb3] 48)) := HBW.out.alloc (Nat.le_trans HBs.out HBW.out.size) _
        have hx0 := (Below.heap_alloc _ (.cells #[.int .i64 k.kind, .bool k.is, .string ⟨k.text.toArray⟩, .slice kb0 k.names.length kb1, .slice kb2 k.kids.length kb3] 48) _ hsz).trans HBX.out
        have hy0 := heap_alloc_new wr (.cells #[.int .i64 k.kind, .bool k.is, .string ⟨k.text.toArray⟩, .slice kb0 k.names.length kb1, .slice kb2 k.kids.length kb3] 48)

        refine (jtext_calls ⟨n.toArray⟩ _ (by rw [show (⟨n.toArray⟩ : ByteArray).size = n.length by simp [ByteArray.size]]; omega)).mono ?_
        rintro e w6 ⟨rfl, hb6⟩
        rw [show (⟨n.toArray⟩ : ByteArray).data.toList = n by simp]
        have D1 := Lib.hid ((HBL.out.alloc _).below hb6); have D2 := Lib.hid (hb0.trans (hb6.mono (Nat.le_trans HBs.out hb0.size)))
        have D3 := Lib.hid ((HOK.out.alloc _).trans (fun i o hi _ _ => (hb6.block i (heap_lt hi)).trans hi))
        have D4 := Lib.hid ((hb6.block _ (heap_lt hx0)).trans hx0)
        have D5 := Lib.hid ((hb6.block _ (heap_lt hy0)).trans hy0)
        clear hb6 hb0 hx0 hy0 b0 b1 b2 b3 b4 b5 q0 q1 q2 q3 q4 qf
        go_wp2_with fail
        have hl2 : (acc).length + ((⟨(Cx.jtext n).toArray⟩ : ByteArray) ++ ⟨#[58]⟩).size ≤ 140737488355328 := by
          rw [ByteArray.size_append, show (⟨(Cx.jtext n).toArray⟩ : ByteArray).size = (Cx.jtext n).length by simp [ByteArray.size], show (⟨#[58]⟩ : ByteArray).size = 1 from rfl]; exact HALT.out
        refine (writeString_calls B c _ _ _ D1.out hl2 (Nat.le_trans HBs.out D2.out.size)).mono ?_
        clear hl2
        rintro e w7 ⟨⟨v7, rfl⟩, c1, c2, c3⟩
        rw [show ((⟨(Cx.jtext n).toArray⟩ : ByteArray) ++ ⟨#[58]⟩).data.toList = Cx.jtext n ++ [58] by simp] at c1
        have hcw : wr.heap.size ≠ c := by have := HBL.out.lt; omega
        have G1 := Lib.hid c1; have G2 := Lib.hid (D2.out.trans c2); have G3 := Lib.hid (D3.out.trans c3)
        have G4 := Lib.hid (c3 _ _ D4.out (by intro e; exact HNE.out (Option.some.inj e)) (by intro _ _ e; injection e with _ e _; cases e))
        have G5 := Lib.hid (c3 _ _ D5.out (by intro e; exact hcw (Option.some.inj e)) (by intro _ _ e; injection e with _ e _; cases e))
        clear c1 c2 c3 hcw
        obtain ⟨p0, p1, p2, p3, p4, pf⟩ := cells5 G5.out
        go_wp2_with fail
        refine (IH.out k [.int .i64 k.kind, .bool k.is, .string ⟨k.text.toArray⟩, .slice kb0 k.names.length kb1, .slice kb2 k.kids.length kb3] (d + 1) (acc ++ (Cx.jtext n ++ [58])) _ HN1.out HRK1.out HF1.out (KJ.out.below G2.out) G1.out (Nat.le_trans HBs.out G2.out.size) HAL.out).mono ?_
        rintro e w5 ⟨rfl, e1, e2, e3⟩
        have E1 := Lib.hid e1; have E2 := Lib.hid (G2.out.trans e2); have E3 := Lib.hid (G3.out.trans e3)
        have E4 := Lib.hid (e3 _ _ G4.out (by intro e; exact HNE.out (Option.some.inj e)) (by intro _ _ e; injection e with _ e _; cases e))
        clear e1 e2 e3 p0 p1 p2 p3 p4 pf
        go_wp2
        go_roundg (ks.length - (i + 1))
        case measure => have := HQ.out; omega
        case rel =>
          refine ⟨i + 1, (acc ++ (Cx.jtext n ++ [58])) ++ Cx.pr k, by go_num, rfl, by omega, Lib.hid ?_, E1, E2, E3, E4⟩
          rw [← HACC2.out, decide_eq_false (by omega)]
          simp
      · have hz : (0 : Int) < (i : Int) := by omega
        have hacc2 : ((acc ++ [44]) ++ (Cx.jtext n ++ [58])) ++ (Cx.pr k ++ (Cx.prK true false (ns.drop (i + 1)) (ks.drop (i + 1)) ++ [125])) = TOT := by
          rw [← hacc, decide_eq_false h0]; simp
        have HACC2 := Lib.hid hacc2
        have hal : ((acc ++ [44]) ++ (Cx.jtext n ++ [58])).length + (Cx.pr k).length ≤ 140737488355328 := by
          have := congrArg List.length hacc2; have := HTL.out
          simp only [List.length_append] at *; omega
        have halt : (acc ++ [44]).length + ((Cx.jtext n).length + 1) ≤ 140737488355328 := by
          simp only [List.length_append, List.length_singleton] at hal ⊢; omega
        have HAL := Lib.hid hal; have HALT := Lib.hid halt
        have hal1 : acc.length + 1 ≤ 140737488355328 := by simp only [List.length_append, List.length_singleton] at hal; omega
        have HAL1 := Lib.hid hal1
        have b0 := (HBW.out.cell (p := ⟨g, o + i * 5, none⟩) hgB).trans d0
        have b1 := (HBW.out.cell (p := ⟨g, o + i * 5 + 1, none⟩) hgB).trans d1
        have b2 := (HBW.out.cell (p := ⟨g, o + i * 5 + 2, none⟩) hgB).trans d2
        have b3 := (HBW.out.cell (p := ⟨g, o + i * 5 + 3, none⟩) hgB).trans d3
        have b4 := (HBW.out.cell (p := ⟨g, o + i * 5 + 4, none⟩) hgB).trans d4
        clear hacc hacc2 hal hal1 halt HACC hkj hk hdr hn hnc hdn d0 d1 d2 d3 d4 h0
        go_wp2_with fail
        have hb0 : Below B w (wr.alloc (.cells #[.int .i64 k.kind, .bool k.is, .string ⟨k.text.toArray⟩, .slice kb0 k.names.length kb1, .slice kb2 k.kids.length kb3] 48)) := HBW.out.alloc (Nat.le_trans HBs.out HBW.out.size) _
        have hx0 := (Below.heap_alloc _ (.cells #[.int .i64 k.kind, .bool k.is, .string ⟨k.text.toArray⟩, .slice kb0 k.names.length kb1, .slice kb2 k.kids.length kb3] 48) _ hsz).trans HBX.out
        have hy0 := heap_alloc_new wr (.cells #[.int .i64 k.kind, .bool k.is, .string ⟨k.text.toArray⟩, .slice kb0 k.names.length kb1, .slice kb2 k.kids.length kb3] 48)
        refine (writeByte_calls B c acc 44 _ (HBL.out.alloc _) HAL1.out (Nat.le_trans HBs.out hb0.size)).mono ?_
        rintro e w4 ⟨rfl, c1, c2, c3⟩
        have C1 := Lib.hid c1; have C2 := Lib.hid (hb0.trans c2); have C3 := Lib.hid ((HOK.out.alloc _).trans c3)
        have C4 := Lib.hid (c3 _ _ hx0 (by intro e; exact HNE.out (Option.some.inj e)) (by intro _ _ e; injection e with _ e _; cases e))
        have hcw : wr.heap.size ≠ c := by have := HBL.out.lt; omega
        have C5 := Lib.hid (c3 _ _ hy0 (by intro e; exact hcw (Option.some.inj e)) (by intro _ _ e; injection e with _ e _; cases e))
        have hb5 := c2.cell (p := ⟨g', o' + i, none⟩) hgB'
        have b6 := hb5.trans ((World.cell?_alloc_lt wr (.cells #[.int .i64 k.kind, .bool k.is, .string ⟨k.text.toArray⟩, .slice kb0 k.names.length kb1, .slice kb2 k.kids.length kb3] 48) ⟨g', o' + i, none⟩ (World.block_lt_of_cell? wr _ B5.out)).trans B5.out)
        clear c1 c2 c3 hb0 hx0 hy0 hcw b0 b1 b2 b3 b4 b5 q0 q1 q2 q3 q4 qf hb5
        obtain ⟨q0, q1, q2, q3, q4, qf⟩ := cells5 C4.out
        go_wp2_with fail

        refine (jtext_calls ⟨n.toArray⟩ _ (by rw [show (⟨n.toArray⟩ : ByteArray).size = n.length by simp [ByteArray.size]]; omega)).mono ?_
        rintro e w6 ⟨rfl, hb6⟩
        rw [show (⟨n.toArray⟩ : ByteArray).data.toList = n by simp]
        have D1 := Lib.hid (C1.out.below hb6); have D2 := Lib.hid (C2.out.trans (hb6.mono (Nat.le_trans HBs.out C2.out.size)))
        have D3 := Lib.hid (C3.out.trans (fun i o hi _ _ => (hb6.block i (heap_lt hi)).trans hi))
        have D4 := Lib.hid ((hb6.block _ (heap_lt C4.out)).trans C4.out)
        have D5 := Lib.hid ((hb6.block _ (heap_lt C5.out)).trans C5.out)
        clear hb6 b6 q0 q1 q2 q3 q4 qf
        go_wp2_with fail
        have hl2 : ((acc ++ [44])).length + ((⟨(Cx.jtext n).toArray⟩ : ByteArray) ++ ⟨#[58]⟩).size ≤ 140737488355328 := by
          rw [ByteArray.size_append, show (⟨(Cx.jtext n).toArray⟩ : ByteArray).size = (Cx.jtext n).length by simp [ByteArray.size], show (⟨#[58]⟩ : ByteArray).size = 1 from rfl]; exact HALT.out
        refine (writeString_calls B c _ _ _ D1.out hl2 (Nat.le_trans HBs.out D2.out.size)).mono ?_
        clear hl2
        rintro e w7 ⟨⟨v7, rfl⟩, c1, c2, c3⟩
        rw [show ((⟨(Cx.jtext n).toArray⟩ : ByteArray) ++ ⟨#[58]⟩).data.toList = Cx.jtext n ++ [58] by simp] at c1
        have hcw : wr.heap.size ≠ c := by have := HBL.out.lt; omega
        have G1 := Lib.hid c1; have G2 := Lib.hid (D2.out.trans c2); have G3 := Lib.hid (D3.out.trans c3)
        have G4 := Lib.hid (c3 _ _ D4.out (by intro e; exact HNE.out (Option.some.inj e)) (by intro _ _ e; injection e with _ e _; cases e))
        have G5 := Lib.hid (c3 _ _ D5.out (by intro e; exact hcw (Option.some.inj e)) (by intro _ _ e; injection e with _ e _; cases e))
        clear c1 c2 c3 hcw
        obtain ⟨p0, p1, p2, p3, p4, pf⟩ := cells5 G5.out
        go_wp2_with fail
        refine (IH.out k [.int .i64 k.kind, .bool k.is, .string ⟨k.text.toArray⟩, .slice kb0 k.names.length kb1, .slice kb2 k.kids.length kb3] (d + 1) ((acc ++ [44]) ++ (Cx.jtext n ++ [58])) _ HN1.out HRK1.out HF1.out (KJ.out.below G2.out) G1.out (Nat.le_trans HBs.out G2.out.size) HAL.out).mono ?_
        rintro e w5 ⟨rfl, e1, e2, e3⟩
        have E1 := Lib.hid e1; have E2 := Lib.hid (G2.out.trans e2); have E3 := Lib.hid (G3.out.trans e3)
        have E4 := Lib.hid (e3 _ _ G4.out (by intro e; exact HNE.out (Option.some.inj e)) (by intro _ _ e; injection e with _ e _; cases e))
        clear e1 e2 e3 p0 p1 p2 p3 p4 pf
        go_wp2
        go_roundg (ks.length - (i + 1))
        case measure => have := HQ.out; omega
        case rel =>
          refine ⟨i + 1, ((acc ++ [44]) ++ (Cx.jtext n ++ [58])) ++ Cx.pr k, by go_num, rfl, by omega, Lib.hid ?_, E1, E2, E3, E4⟩
          rw [← HACC2.out, decide_eq_false (by omega)]
          simp
    · have hik : i = ks.length := by omega
      subst hik
      have hacc := HACC.out
      rw [List.drop_length] at hacc
      unfold Cx.prK at hacc
      rw [List.nil_append] at hacc
      have HACC2 := Lib.hid hacc
      have hal : acc.length + 1 ≤ 140737488355328 := by
        have := congrArg List.length hacc; have := HTL.out
        simp only [List.length_append, List.length_singleton] at *; omega
      have HAL := Lib.hid hal
      clear hacc hal
      go_wp2_with fail
      refine (writeString_calls B c acc ⟨#[125]⟩ _ HBL.out HAL.out (Nat.le_trans HBs.out HBW.out.size)).mono ?_
      rintro e w5 ⟨⟨v5, rfl⟩, e1, e2, e3⟩
      have E1 := Lib.hid e1; have E2 := Lib.hid (HBW.out.trans e2); have E3 := Lib.hid (HOK.out.trans e3)
      clear e1 e2 e3
      go_wp2
      go_end0
      exact ⟨rfl, by rw [← HACC2.out]; exact E1.out, E2.out, E3.out⟩
end Go.Proofs.YtejlddimokmgjaaGreatDoor
namespace Go.Proofs.YtejlddimokmgjaaGreatDoor
open Go.RowKit

theorem right_calls : ∀ (m d : Nat), d + m = 20 → ∀ (v : Cx.J) (cs : List Value) (w : World) (ok : Nat → Prop), JAt w ok v cs → fit maxLen v → Cx.nodes v ≤ 5000 → Glb w → 8 ≤ w.heap.size →
    Calls Tryz.prog 103 #[.agg cs.toArray, .int .i64 d] w fun e w' => e = .returned (.bool (Cx.right d v)) ∧ Below w.heap.size w w'
  | 0, d, hm, v, cs, w, ok, hj, hf, hN, hg, h8 => right_step d (by omega) (fun h => by omega) v cs w ok hj hf hN hg h8
  | m + 1, d, hm, v, cs, w, ok, hj, hf, hN, hg, h8 => right_step d (by omega) (fun _ v cs w ok hj hf hN hg h8 => by
      have := right_calls m (d + 1) (by omega) v cs w ok hj hf hN hg h8
      rw [show ((d + 1 : Nat) : Int) = (d : Int) + 1 by omega] at this
      exact this) v cs w ok hj hf hN hg h8

set_option maxRecDepth 100000 in
set_option maxHeartbeats 2000000 in
theorem Right_calls (v : Cx.J) (cs : List Value) (w : World) (ok : Nat → Prop) (hj : JAt w ok v cs) (hf : fit maxLen v) (hg : Glb w) (h8 : 8 ≤ w.heap.size) :
    Calls Tryz.prog 59 #[.agg cs.toArray] w fun e w' => e = .returned (.bool (Cx.Right v)) ∧ Below w.heap.size w w' := by
  cases v with
  | mk k is t ns ks =>
  obtain ⟨a, nc, a', kc, rfl⟩ := hj.shape
  have J := Lib.hid hj.all; have F := Lib.hid hf; have HG := Lib.hid hg
  have HB := Lib.hid ((Below.refl w.heap.size w).alloc (Nat.le_refl _) (.cells #[.int .i64 k, .bool is, .string ⟨t.toArray⟩, .slice a ns.length nc, .slice a' ks.length kc] 48))
  have HBX := Lib.hid (fun (w' : World) (hb : Below (w.alloc (.cells #[.int .i64 k, .bool is, .string ⟨t.toArray⟩, .slice a ns.length nc, .slice a' ks.length kc] 48)).heap.size (w.alloc (.cells #[.int .i64 k, .bool is, .string ⟨t.toArray⟩, .slice a ns.length nc, .slice a' ks.length kc] 48)) w') =>
      (show w'.heap[w.heap.size]? = some (.cells #[.int .i64 k, .bool is, .string ⟨t.toArray⟩, .slice a ns.length nc, .slice a' ks.length kc] 48 (0, 0)) from (hb.block _ (by simp)).trans (heap_alloc_new w _)))
  clear hj hf hg
  obtain ⟨RES, hRES⟩ : ∃ RES, RES = Cx.Right (.mk k is t ns ks) := ⟨_, rfl⟩
  rw [← hRES]
  have HR := Lib.hid hRES
  clear hRES
  go_enter Tryz.func59, Tryz.ntmps59
  go_wp2_with fail
  refine (many_calls _ (.mk k is t ns ks) [.int .i64 k, .bool is, .string ⟨t.toArray⟩, .slice a ns.length nc, .slice a' ks.length kc] 5000 _ _ (Nat.le_refl _) (J.out.below HB.out) (by omega) F.out).mono ?_
  rintro e w5 ⟨rfl, hb5⟩
  have HB5 := Lib.hid (HB.out.trans (hb5.mono HB.out.size))
  obtain ⟨q0, q1, q2, q3, q4, _⟩ := cells5 (HBX.out _ hb5)
  clear hb5
  by_cases hn : Cx.nodes (.mk k is t ns ks) ≤ 5000
  · have hfin : RES = Cx.right 0 (.mk k is t ns ks) := by rw [HR.out]; unfold Cx.Right; rw [decide_eq_true hn, Bool.true_and]
    have HFIN := Lib.hid hfin; have HN := Lib.hid hn
    obtain ⟨N, hNe⟩ : ∃ N : Nat, N = min (Cx.nodes (.mk k is t ns ks)) (5000 + 1) := ⟨_, rfl⟩
    rw [← hNe]
    have hnl : (N : Int) ≤ 5000 := by omega
    clear hn hfin hNe
    go_wp2_with fail
    refine (show Calls Tryz.prog 103 #[.agg #[.int .i64 k, .bool is, .string ⟨t.toArray⟩, .slice a ns.length nc, .slice a' ks.length kc], .int .i64 0] _ _ from right_calls 20 0 (by omega) (.mk k is t ns ks) [.int .i64 k, .bool is, .string ⟨t.toArray⟩, .slice a ns.length nc, .slice a' ks.length kc] _ _ (J.out.below HB5.out) F.out HN.out (HG.out.below HB5.out) (Nat.le_trans h8 HB5.out.size)).mono ?_
    rintro e w6 ⟨rfl, hb6⟩
    have HB6 := Lib.hid (HB5.out.trans (hb6.mono HB5.out.size))
    clear hb6
    rw [← HFIN.out]
    go_wp2
    go_ret
    exact ⟨rfl, HB6.out⟩
  · have hfin : RES = false := by rw [HR.out]; unfold Cx.Right; rw [decide_eq_false hn, Bool.false_and]
    obtain ⟨N, hNe⟩ : ∃ N : Nat, N = min (Cx.nodes (.mk k is t ns ks)) (5000 + 1) := ⟨_, rfl⟩
    rw [← hNe]
    have hnl : ¬ (N : Int) ≤ 5000 := by omega
    clear hn hNe
    subst hfin
    go_wp2_with fail
    go_ret
    exact ⟨rfl, HB5.out⟩

theorem write_all (B c : Nat) : ∀ N, WrIH B c N
  | 0 => fun v _ _ _ _ h => by have := nodes_pos v; omega
  | N + 1 => fun v cs d l w hN hr hf hj hb hB hlen => by
    cases v with
    | mk k is t ns ks =>
    obtain ⟨a, nc, a', kc, rfl⟩ := hj.shape
    have hk : k = 1 ∨ k = 2 ∨ k = 3 ∨ k = 4 ∨ k = 5 ∨ k = 6 := by
      by_cases h1 : k = 1; · exact .inl h1
      by_cases h2 : k = 2; · exact .inr (.inl h2)
      by_cases h3 : k = 3; · exact .inr (.inr (.inl h3))
      by_cases h4 : k = 4; · exact .inr (.inr (.inr (.inl h4)))
      by_cases h5 : k = 5; · exact .inr (.inr (.inr (.inr (.inl h5))))
      by_cases h6 : k = 6; · exact .inr (.inr (.inr (.inr (.inr h6))))
      unfold Cx.right at hr
      rw [if_neg h1, if_neg h2, if_neg h3, if_neg h4, if_neg h5, if_neg h6] at hr
      cases hr
    rcases hk with h | h | h | h | h | h
    · exact write_leaf B c k is t ns ks a nc a' kc d l w (.inl h) hf hb hB hlen
    · exact write_leaf B c k is t ns ks a nc a' kc d l w (.inr (.inl h)) hf hb hB hlen
    · exact write_leaf B c k is t ns ks a nc a' kc d l w (.inr (.inr (.inl h))) hf hb hB hlen
    · exact write_leaf B c k is t ns ks a nc a' kc d l w (.inr (.inr (.inr h))) hf hb hB hlen
    · subst h; exact write_list B c N (write_all B c N) is t ns ks a nc a' kc d l w hN hr hf hj hb hB hlen
    · subst h; exact write_object B c N (write_all B c N) is t ns ks a nc a' kc d l w hN hr hf hj hb hB hlen

mutual
theorem fit_le {L M : Nat} (h : L ≤ M) : ∀ v : Cx.J, fit L v → fit M v
  | .mk k is t ns ks, hf => by
    unfold fit Cx.fit at hf ⊢
    exact ⟨Nat.le_trans hf.1 h, Nat.le_trans hf.2.1 h, fun n hn => Nat.le_trans (hf.2.2.1 n hn) h, Nat.le_trans hf.2.2.2.1 h, fitK_le h ks hf.2.2.2.2⟩
theorem fitK_le {L M : Nat} (h : L ≤ M) : ∀ ks : List Cx.J, fitK L ks → fitK M ks
  | [], _ => by unfold fitK Cx.fitK; trivial
  | k :: ks, hf => by
    unfold fitK Cx.fitK at hf ⊢
    exact ⟨fit_le h k hf.1, fitK_le h ks hf.2⟩
end

set_option maxRecDepth 100000 in
set_option maxHeartbeats 2000000 in
theorem print_calls (v : Cx.J) (cs : List Value) (w : World) (ok : Nat → Prop) (hj : JAt w ok v cs) (hf : fit 100000 v) (hg : Glb w) (h8 : 8 ≤ w.heap.size) :
    Calls Tryz.prog 24 #[.agg cs.toArray] w fun e w' => e = .returned (.string ⟨(Cx.print v).toArray⟩) ∧ Below w.heap.size w w' := by
  cases v with
  | mk k is t ns ks =>
  obtain ⟨a, nc, a', kc, rfl⟩ := hj.shape
  have J := Lib.hid hj.all; have F := Lib.hid hf; have HG := Lib.hid hg
  have F2 := Lib.hid (fit_le (show 100000 ≤ maxLen by unfold maxLen; omega) _ hf)
  have HB := Lib.hid ((Below.refl w.heap.size w).alloc (Nat.le_refl _) (.cells #[.int .i64 k, .bool is, .string ⟨t.toArray⟩, .slice a ns.length nc, .slice a' ks.length kc] 48))
  have HBX := Lib.hid (fun (w' : World) (hb : Below (w.alloc (.cells #[.int .i64 k, .bool is, .string ⟨t.toArray⟩, .slice a ns.length nc, .slice a' ks.length kc] 48)).heap.size (w.alloc (.cells #[.int .i64 k, .bool is, .string ⟨t.toArray⟩, .slice a ns.length nc, .slice a' ks.length kc] 48)) w') =>
      (show w'.heap[w.heap.size]? = some (.cells #[.int .i64 k, .bool is, .string ⟨t.toArray⟩, .slice a ns.length nc, .slice a' ks.length kc] 48 (0, 0)) from (hb.block _ (by simp)).trans (heap_alloc_new w _)))
  clear hj hf hg
  cases hR : Cx.Right (.mk k is t ns ks) with
  | false =>
    have hp : Cx.print (.mk k is t ns ks) = [] := by unfold Cx.print; rw [hR]; rfl
    rw [hp]
    have HR := Lib.hid hR
    clear hR hp
    go_enter Tryz.func24, Tryz.ntmps24
    go_wp2_with fail
    refine (Right_calls (.mk k is t ns ks) [.int .i64 k, .bool is, .string ⟨t.toArray⟩, .slice a ns.length nc, .slice a' ks.length kc] _ _ (J.out.below HB.out) F2.out (HG.out.below HB.out) (Nat.le_trans h8 HB.out.size)).mono ?_
    rintro e w5 ⟨rfl, hb5⟩
    have HB5 := Lib.hid (HB.out.trans (hb5.mono HB.out.size))
    rw [HR.out]
    clear hb5
    go_wp2
    go_ret
    exact ⟨rfl, HB5.out⟩
  | true =>
    have hp : Cx.print (.mk k is t ns ks) = Cx.pr (.mk k is t ns ks) := by unfold Cx.print; rw [hR]; rfl
    rw [hp]
    have hlen : (Cx.pr (.mk k is t ns ks)).length ≤ 140737488355328 := by
      have h1 := Cx.pr_length 100000 _ F.out
      unfold Cx.Right at hR
      simp only [Bool.and_eq_true, decide_eq_true_eq] at hR
      have h2 := hR.1
      have h3 : (12 * 100000 + 20) * Cx.nodes (.mk k is t ns ks) ≤ (12 * 100000 + 20) * 5000 := Nat.mul_le_mul_left _ h2
      omega
    have hr0 : Cx.right 0 (.mk k is t ns ks) = true := by
      unfold Cx.Right at hR
      simp only [Bool.and_eq_true] at hR
      exact hR.2
    have HL := Lib.hid hlen; have HR0 := Lib.hid hr0
    have HR := Lib.hid hR
    clear hR hp hlen hr0
    go_enter Tryz.func24, Tryz.ntmps24
    go_wp2_with fail
    refine (Right_calls (.mk k is t ns ks) [.int .i64 k, .bool is, .string ⟨t.toArray⟩, .slice a ns.length nc, .slice a' ks.length kc] _ _ (J.out.below HB.out) F2.out (HG.out.below HB.out) (Nat.le_trans h8 HB.out.size)).mono ?_
    rintro e w5 ⟨rfl, hb5⟩
    have HB5 := Lib.hid (HB.out.trans (hb5.mono HB.out.size))
    obtain ⟨q0, q1, q2, q3, q4, _⟩ := cells5 (HBX.out _ hb5)
    have hsz : w.heap.size < w5.heap.size := heap_lt (HBX.out _ hb5)
    rw [HR.out]
    clear hb5
    go_wp2_with fail
    have hbf := Bld.fresh w5
    have HBF := Lib.hid hbf
    have hb6 := HB5.out.alloc HB5.out.size (.cells #[.pointer none, .slice none 0 0] 93)
    have HB6 := Lib.hid hb6
    have hj6 := (J.out.below HB5.out).all
    have hj7 : JAt (w5.alloc (.cells #[.pointer none, .slice none 0 0] 93)) (fun g => g < w5.heap.size) (.mk k is t ns ks) [.int .i64 k, .bool is, .string ⟨t.toArray⟩, .slice a ns.length nc, .slice a' ks.length kc] :=
      hj6.below ((Below.refl w5.heap.size w5).alloc (Nat.le_refl _) _)
    refine (write_all w5.heap.size w5.heap.size _ (.mk k is t ns ks) [.int .i64 k, .bool is, .string ⟨t.toArray⟩, .slice a ns.length nc, .slice a' ks.length kc] 0 [] _ (Nat.le_refl _) HR0.out F.out hj7 HBF.out (by simp) (by have := HL.out; simpa using this)).mono ?_
    rintro e w7 ⟨rfl, k1, k2, _⟩
    have K1 := Lib.hid k1
    have K2 := Lib.hid (HB6.out.trans ((show Below w.heap.size _ _ from k2.mono HB5.out.size)))
    have hs7 : w5.heap.size ≤ w7.heap.size := Nat.le_of_lt (k1.lt).2
    clear k1 k2 hbf hb6 hj6 hj7 q0 q1 q2 q3 q4
    go_wp2_with fail
    refine (string_calls w5.heap.size w5.heap.size _ _ K1.out hs7).mono ?_
    rintro e w8 ⟨rfl, _, k2, _⟩
    have K3 := Lib.hid (K2.out.trans (k2.mono HB5.out.size))
    clear k2
    go_wp2
    go_ret
    exact ⟨by simp, K3.out⟩
end Go.Proofs.YtejlddimokmgjaaGreatDoor
namespace Go.Proofs.YtejlddimokmgjaaGreatDoor
open Go.RowKit

def ixN (ns : List (List UInt8)) (t : List UInt8) : Int := if t ∈ ns then (ns.idxOf t : Int) else -1

theorem indexS_calls (sn : Value) (ns : List (List UInt8)) (t : List UInt8) (ok : Nat → Prop) (w : World) (h : Row w ok sn ns.length (ns.map strV)) (hn : ns.length ≤ 9223372036854775807) :
    Calls Tryz.prog 51 #[sn, .string ⟨t.toArray⟩] w fun e w' => e = .returned (.int .i64 (ixN ns t)) ∧ w = w' := by
  rcases h with ⟨h0, _, a, cap, rfl⟩ | ⟨h0, g, o, cap, rfl, _, _, _, hc⟩
  · have : ns = [] := List.length_eq_zero_iff.1 h0
    subst this
    refine (Tryz.slices_Index_string_empty a cap ⟨t.toArray⟩ w).mono ?_
    rintro e w' ⟨rfl, rfl⟩
    exact ⟨by simp [ixN]; rfl, rfl⟩
  · refine (Tryz.slices_Index_string g o ns.length cap (ns.map fun t => ⟨t.toArray⟩) ⟨t.toArray⟩ w (by simp) hn ?_).mono ?_
    · intro j hj
      simp only [List.length_map] at hj
      refine hc j _ ?_
      simp [List.getElem?_eq_getElem hj, strV, List.getD]
    · rintro e w' ⟨rfl, rfl⟩
      refine ⟨ret_int ?_, rfl⟩
      have inj : ∀ x y : List UInt8, (⟨x.toArray⟩ : ByteArray) = ⟨y.toArray⟩ → x = y := by
        intro x y h
        injection h with h
        simpa using congrArg Array.toList h
      have hg : ∀ j (hj : j < ns.length), (ns.map fun t => (⟨t.toArray⟩ : ByteArray)).getD j ByteArray.empty = ⟨(ns[j]'hj).toArray⟩ := by
        intro j hj
        simp [List.getD, hj]
      unfold ixN
      by_cases hm : t ∈ ns
      · rw [if_pos hm]
        have hlt := List.idxOf_lt_length_of_mem hm
        refine Lib.idxOfS_hit _ _ _ _ hlt (by simp) ?_ ?_
        · rw [hg _ hlt, List.getElem_idxOf]
        · intro j hj
          rw [hg j (by omega)]
          intro e
          have h1 := List.not_of_lt_findIdx (p := (· == t)) (xs := ns) (i := j) hj
          simp at h1
          exact h1 (inj _ _ e)
      · rw [if_neg hm]
        refine Lib.idxOfS_miss _ _ _ ?_
        intro j hj
        rw [hg j hj]
        intro e
        exact hm (by rw [← inj _ _ e]; exact List.getElem_mem hj)

/-- What 'Get' hands back. -/
def GetPost (v : Cx.J) (t : List UInt8) (w : World) (e : Ending) (w' : World) : Prop :=
  ∃ cs : List Value, e = .returned (.tuple #[.agg cs.toArray, .bool (Cx.get v t).isSome]) ∧ JAt w' (fun g => g < w'.heap.size) ((Cx.get v t).getD (.mk 0 false [] [] [])) cs ∧ Below w.heap.size w w'

set_option maxRecDepth 100000 in
set_option maxHeartbeats 2000000 in
theorem get_calls (v : Cx.J) (cs : List Value) (n : List UInt8) (w : World) (ok : Nat → Prop) (hj : JAt w ok v cs) (hf : fit maxLen v) :
    Calls Tryz.prog 21 #[.agg cs.toArray, .string ⟨n.toArray⟩] w (GetPost v n w) := by
  cases v with
  | mk k is t ns ks =>
  obtain ⟨a, nc, a', kc, rfl⟩ := hj.shape
  have hnl : ns.length ≤ maxLen := hf.2.1
  have hkl : ks.length ≤ maxLen := hf.2.2.2.1
  unfold maxLen at hnl hkl
  have J := Lib.hid hj.all
  have hrow : Row w (fun g => g < w.heap.size) (.slice a ns.length nc) ns.length (ns.map strV) := by
    have hj := J.out
    unfold JAt at hj
    obtain ⟨sn, sk, hcs, h1, _⟩ := hj
    injection hcs with _ hcs; injection hcs with _ hcs; injection hcs with _ hcs; injection hcs with e3 hcs
    rw [e3]; exact h1
  have HROW := Lib.hid hrow
  have hb2 : Below w.heap.size w ((w.alloc (.cells #[.int .i64 k, .bool is, .string ⟨t.toArray⟩, .slice a ns.length nc, .slice a' ks.length kc] 48)).alloc (.cells #[.int .i64 0, .bool false, .string ⟨#[]⟩, .slice none 0 0, .slice none 0 0] 48)) := ((Below.refl w.heap.size w).alloc (Nat.le_refl _) _).alloc (by simp) _
  have HB2 := Lib.hid hb2
  clear hj hf hrow hb2
  have hixb : -1 ≤ ixN ns n ∧ ixN ns n < (ns.length : Int) + 1 := by
    unfold ixN
    split
    · rename_i h; have := List.idxOf_lt_length_of_mem h; omega
    · omega
  obtain ⟨hix1, hix2⟩ := hixb
  go_enter Tryz.func21, Tryz.ntmps21
  go_wp2_with fail
  refine (indexS_calls _ ns n _ _ (HROW.out.below HB2.out) (by omega)).mono ?_
  rintro e w5 ⟨rfl, rfl⟩
  obtain ⟨r, hr⟩ : ∃ r, r = ixN ns n := ⟨_, rfl⟩
  rw [← hr] at hix1 hix2 ⊢
  have HRX := Lib.hid hr
  clear hr
  by_cases hk : k = 6
  · subst hk
    by_cases hneg : r < 0
    · have HGN : Hid (Cx.get (.mk 6 is t ns ks) n = none) := Lib.hid (by
        have h := HRX.out
        unfold ixN at h
        show (if (6 : Int) = 6 ∧ n ∈ ns then ks[ns.idxOf n]? else none) = none
        rw [if_neg]
        rintro ⟨_, hm⟩
        rw [if_pos hm] at h
        omega)
      go_wp2_with fail
      exact bodyPost_ret (v := .tuple #[.agg #[.int .i64 0, .bool false, .string ⟨#[]⟩, .slice none 0 0, .slice none 0 0], .bool false]) (by simp [results, Tryz.results21, go_sem]) rfl ⟨[.int .i64 0, .bool false, .string ⟨#[]⟩, .slice none 0 0, .slice none 0 0], by rw [HGN.out]; rfl, by rw [HGN.out]; exact JAt.plain, HB2.out⟩
    · have hm : n ∈ ns := by
        have h := HRX.out
        unfold ixN at h
        by_cases hm : n ∈ ns
        · exact hm
        · rw [if_neg hm] at h; omega
      have hre : r = (ns.idxOf n : Int) := by rw [HRX.out]; unfold ixN; rw [if_pos hm]
      have hnegd : decide (r < 0) = false := by simp; omega
      obtain ⟨i, hi⟩ : ∃ i, i = ns.idxOf n := ⟨_, rfl⟩
      rw [← hi] at hre
      have HI := Lib.hid hi; have HM := Lib.hid hm
      clear hi hm
      subst hre
      by_cases hge : ks.length ≤ i
      · have HGN : Hid (Cx.get (.mk 6 is t ns ks) n = none) := Lib.hid (by
          show (if (6 : Int) = 6 ∧ n ∈ ns then ks[ns.idxOf n]? else none) = none
          rw [if_pos ⟨rfl, HM.out⟩, ← HI.out]
          exact List.getElem?_eq_none hge)
        have hged : decide ((ks.length : Int) ≤ (i : Int)) = true := by simp; omega
        go_wp2_with fail
        exact bodyPost_ret (v := .tuple #[.agg #[.int .i64 0, .bool false, .string ⟨#[]⟩, .slice none 0 0, .slice none 0 0], .bool false]) (by simp [results, Tryz.results21, go_sem]) rfl ⟨[.int .i64 0, .bool false, .string ⟨#[]⟩, .slice none 0 0, .slice none 0 0], by rw [HGN.out]; rfl, by rw [HGN.out]; exact JAt.plain, HB2.out⟩
      · obtain ⟨k, hk⟩ : ∃ k, ks[i]? = some k := ⟨ks[i]'(by omega), List.getElem?_eq_getElem _⟩
        have HGN : Hid (Cx.get (.mk 6 is t ns ks) n = some k) := Lib.hid (by
          show (if (6 : Int) = 6 ∧ n ∈ ns then ks[ns.idxOf n]? else none) = some k
          rw [if_pos ⟨rfl, HM.out⟩, ← HI.out]
          exact hk)
        obtain ⟨g, o, cap, hv, _, hgl, kb0, kb1, kb2, kb3, hkj, d0, d1, d2, d3, d4⟩ := J.out.kid' hk
        injection hv with ha _ hc
        subst ha hc
        have hged : decide ((ks.length : Int) ≤ (i : Int)) = false := by simp; omega
        have hlt : (i : Int) < (ks.length : Int) := by omega
        have KJ := Lib.hid hkj
        clear hkj hge hk
        go_wp2_with fail
        have hb3 : Below w.heap.size w ((w.alloc (.cells #[.int .i64 6, .bool is, .string ⟨t.toArray⟩, .slice a ns.length nc, .slice (some ⟨g, o, none⟩) ks.length kc] 48)).alloc (.cells #[.int .i64 k.kind, .bool k.is, .string ⟨k.text.toArray⟩, .slice kb0 k.names.length kb1, .slice kb2 k.kids.length kb3] 48)) := ((Below.refl w.heap.size w).alloc (Nat.le_refl _) _).alloc (by simp) _
        exact bodyPost_ret (v := .tuple #[.agg #[.int .i64 k.kind, .bool k.is, .string ⟨k.text.toArray⟩, .slice kb0 k.names.length kb1, .slice kb2 k.kids.length kb3], .bool true]) (by simp [results, Tryz.results21, go_sem]) rfl ⟨[.int .i64 k.kind, .bool k.is, .string ⟨k.text.toArray⟩, .slice kb0 k.names.length kb1, .slice kb2 k.kids.length kb3], by rw [HGN.out]; rfl, by rw [HGN.out]; exact (KJ.out.below hb3).all, hb3⟩
  · have HGN : Hid (Cx.get (.mk k is t ns ks) n = none) := Lib.hid (by
      show (if k = 6 ∧ n ∈ ns then ks[ns.idxOf n]? else none) = none
      rw [if_neg]
      rintro ⟨h6, _⟩
      exact hk h6)
    have hkd : (k != 6) = true := by simpa using hk
    go_wp2_with fail
    exact bodyPost_ret (v := .tuple #[.agg #[.int .i64 0, .bool false, .string ⟨#[]⟩, .slice none 0 0, .slice none 0 0], .bool false]) (by simp [results, Tryz.results21, go_sem]) rfl ⟨[.int .i64 0, .bool false, .string ⟨#[]⟩, .slice none 0 0, .slice none 0 0], by rw [HGN.out]; rfl, by rw [HGN.out]; exact JAt.plain, HB2.out⟩
end Go.Proofs.YtejlddimokmgjaaGreatDoor
namespace Go.Proofs.YtejlddimokmgjaaGreatDoor
open Go.RowKit

theorem dropWhile_nil (p : UInt8 → Bool) : ∀ l : List UInt8, l.dropWhile p = [] ↔ ∀ x ∈ l, p x = true
  | [] => by simp
  | a :: l => by
    rw [List.dropWhile_cons]
    by_cases h : p a = true
    · rw [if_pos h, dropWhile_nil p l]; simp [h]
    · rw [if_neg h]; simp [h]
theorem dropWhile_cons_head (p : UInt8 → Bool) : ∀ (l : List UInt8) (a : UInt8) (r : List UInt8), l.dropWhile p = a :: r → p a = false ∧ a ∈ l
  | [], a, r, h => by simp at h
  | b :: l, a, r, h => by
    rw [List.dropWhile_cons] at h
    by_cases hb : p b = true
    · rw [if_pos hb] at h
      have := dropWhile_cons_head p l a r h
      exact ⟨this.1, by simp [this.2]⟩
    · rw [if_neg hb] at h
      injection h with h1 h2
      subst h1
      exact ⟨by simpa using hb, by simp⟩
theorem trimS_nil (l cs : List UInt8) : Lib.trimS l cs = [] ↔ ∀ b ∈ l, cs.contains b = true := by
  unfold Lib.trimS Lib.trimLeftS Lib.trimRightS
  constructor
  · intro h
    rw [dropWhile_nil] at h
    cases hx : l.reverse.dropWhile (cs.contains ·) with
    | nil => intro b hb; exact (dropWhile_nil _ _).1 hx b (by simpa using hb)
    | cons a r =>
      have h1 := (dropWhile_cons_head _ _ _ _ hx).1
      rw [h a (by rw [hx]; simp)] at h1
      cases h1
  · intro h
    have e : l.reverse.dropWhile (cs.contains ·) = [] := by
      rw [dropWhile_nil]
      intro x hx; exact h x (by simpa using hx)
    rw [e]; rfl
theorem digs_iff (c : UInt8) : ([48, 49, 50, 51, 52, 53, 54, 55, 56, 57] : List UInt8).contains c = Cx.isDig c := by
  have : ∀ c : Fin 256, ([48, 49, 50, 51, 52, 53, 54, 55, 56, 57] : List UInt8).contains (UInt8.ofNat c.val) = Cx.isDig (UInt8.ofNat c.val) := by decide +kernel
  have h := this ⟨c.toNat, c.toNat_lt⟩
  simpa using h
theorem trim_digs (l : List UInt8) : Lib.trimS l [48, 49, 50, 51, 52, 53, 54, 55, 56, 57] = [] ↔ l.all Cx.isDig = true := by
  rw [trimS_nil, List.all_eq_true]
  constructor
  · intro h b hb; rw [← digs_iff]; exact h b hb
  · intro h b hb; rw [digs_iff]; exact h b hb
theorem trimPrefix_unsign (t : List UInt8) : Lib.trimPrefix t [45] = Cx.unsign t := by
  unfold Cx.unsign
  split
  · rename_i r; simp [Lib.trimPrefix, Lib.hasPrefix]
  · rename_i h
    cases t with
    | nil => rfl
    | cons c r =>
      have hc : c ≠ 45 := by rintro rfl; exact h r rfl
      simp [Lib.trimPrefix, Lib.hasPrefix, hc.symm]
theorem parseUint_dig : ∀ (l : List UInt8) (acc k : Nat), (∀ c ∈ l, Cx.isDig c = true) → acc < 10 ^ k → k + l.length ≤ 18 → Lib.parseUint10 acc l = .ok (l.foldl (fun n c => 10 * n + (c.toNat - 48)) acc)
  | [], acc, k, _, _, _ => rfl
  | c :: r, acc, k, hd, ha, hk => by
    have hc := hd c (by simp)
    simp only [Cx.isDig, Bool.and_eq_true, decide_eq_true_eq, UInt8.le_iff_toNat_le] at hc
    have hc' : 48 ≤ c.toNat ∧ c.toNat ≤ 57 := hc
    simp only [List.length_cons] at hk
    have hp : 10 ^ k ≤ 10 ^ 17 := Nat.pow_le_pow_right (by omega) (by omega)
    have ha' : acc < 100000000000000000 := Nat.lt_of_lt_of_le ha hp
    simp only [Lib.parseUint10]
    rw [if_pos hc', if_neg (by omega), if_neg (by omega)]
    rw [parseUint_dig r _ (k + 1) (fun x hx => hd x (by simp [hx])) (by rw [Nat.pow_succ]; omega) (by omega)]
    simp only [List.foldl_cons]
    rw [Nat.mul_comm acc 10]
theorem atoi_ok {t : List UInt8} {v : Int} (h : Cx.toIntT t = some v) : Lib.atoiAll t = .ok v := by
  unfold Cx.toIntT at h
  split at h
  · rename_i hc
    obtain ⟨hne, hl, hd⟩ := hc
    injection h with h
    subst h
    rw [List.all_eq_true] at hd
    have hp := parseUint_dig (Cx.unsign t) 0 0 hd (by decide) (by omega)
    have hlt := Lib.parseUint10_lt _ _ _ (by decide) hp
    have hsm : ∀ (l : List UInt8) (acc k : Nat), (∀ c ∈ l, Cx.isDig c = true) → acc < 10 ^ k → l.foldl (fun n c => 10 * n + (c.toNat - 48)) acc < 10 ^ (k + l.length) := by
      intro l
      induction l with
      | nil => intro acc k _ h; simpa using h
      | cons c r ih =>
        intro acc k hd ha
        have hc := hd c (by simp)
        simp only [Cx.isDig, Bool.and_eq_true, decide_eq_true_eq, UInt8.le_iff_toNat_le] at hc
        have hc' : 48 ≤ c.toNat ∧ c.toNat ≤ 57 := hc
        simp only [List.foldl_cons, List.length_cons]
        have := ih (10 * acc + (c.toNat - 48)) (k + 1) (fun x hx => hd x (by simp [hx])) (by rw [Nat.pow_succ]; omega)
        rw [show k + (r.length + 1) = k + 1 + r.length by omega]; exact this
    have hs := hsm (Cx.unsign t) 0 0 hd (by decide)
    have hs2 : (10 : Nat) ^ (0 + (Cx.unsign t).length) ≤ 10 ^ 15 := Nat.pow_le_pow_right (by omega) (by omega)
    have hs3 : (Cx.unsign t).foldl (fun n c => 10 * n + (c.toNat - 48)) 0 < 1000000000000000 := Nat.lt_of_lt_of_le hs hs2
    clear hs hs2 hsm hlt
    unfold Cx.digVal
    generalize hV : (Cx.unsign t).foldl (fun n c => 10 * n + (c.toNat - 48)) 0 = V at hp hs3 ⊢
    cases t with
    | nil => exact absurd rfl hne
    | cons c r =>
      by_cases h45 : c = 45
      · subst h45
        have hu : Cx.unsign (45 :: r) = r := rfl
        rw [hu] at hp hne
        unfold Lib.atoiAll Lib.parseMag
        simp only [show (45 : UInt8).toNat = 45 from rfl, or_true, if_true]
        rw [if_neg hne, hp]
        simp only [not_true_eq_false, false_and, if_false, true_and, List.head?_cons, if_true]
        rw [if_neg (by omega)]
      · have hu : Cx.unsign (c :: r) = c :: r := by
          unfold Cx.unsign
          split
          · rename_i r' he; injection he with he _; exact absurd he h45
          · rfl
        rw [hu] at hp hne hd
        have hc := hd c (by simp)
        simp only [Cx.isDig, Bool.and_eq_true, decide_eq_true_eq, UInt8.le_iff_toNat_le] at hc
        have hc' : 48 ≤ c.toNat ∧ c.toNat ≤ 57 := hc
        have hn1 : ¬ (c.toNat = 43 ∨ c.toNat = 45) := by omega
        have hn2 : ¬ c.toNat = 45 := by omega
        unfold Lib.atoiAll Lib.parseMag
        simp only
        rw [if_neg hn1, if_neg hne, hp]
        simp only
        rw [if_neg (by omega), if_neg (by omega), if_neg hn2]
        have : (c :: r).head? ≠ some 45 := by simpa using h45
        rw [if_neg this]
  · cases h
/-- What 'Int' hands back. -/
def IntPost (v : Cx.J) (w : World) (e : Ending) (w' : World) : Prop :=
  e = .returned (.tuple #[.int .i64 ((Cx.toInt v).getD 0), .bool (Cx.toInt v).isSome]) ∧ Below w.heap.size w w'

theorem unsign_le (t : List UInt8) : (Cx.unsign t).length ≤ t.length ∧ t.length ≤ (Cx.unsign t).length + 1 := by
  unfold Cx.unsign
  split
  · simp
  · exact ⟨Nat.le_refl _, Nat.le_succ _⟩

set_option maxRecDepth 100000 in
set_option maxHeartbeats 1000000 in
theorem int_calls (v : Cx.J) (cs : List Value) (w : World) (ok : Nat → Prop) (hj : JAt w ok v cs) (hf : fit maxLen v) :
    Calls Tryz.prog 23 #[.agg cs.toArray] w (IntPost v w) := by
  cases v with
  | mk k is t ns ks =>
  obtain ⟨a, nc, a', kc, rfl⟩ := hj.shape
  have htl : t.length ≤ maxLen := hf.1
  unfold maxLen at htl
  have hts : (⟨t.toArray⟩ : ByteArray).size = t.length := by simp [ByteArray.size]
  have htd : (⟨t.toArray⟩ : ByteArray).data.toList = t := by simp
  obtain ⟨R, hR⟩ : ∃ R, R = Cx.toInt (.mk k is t ns ks) := ⟨_, rfl⟩
  unfold IntPost
  rw [← hR]
  have HR := Lib.hid hR
  have HB := Lib.hid ((Below.refl w.heap.size w).alloc (Nat.le_refl _) (.cells #[.int .i64 k, .bool is, .string ⟨t.toArray⟩, .slice a ns.length nc, .slice a' ks.length kc] 48))
  obtain ⟨U, hU⟩ : ∃ U : List UInt8, U = Cx.unsign t := ⟨_, rfl⟩
  have hUl : U.length ≤ t.length ∧ t.length ≤ U.length + 1 := by rw [hU]; exact unsign_le t
  have hus : (⟨U.toArray⟩ : ByteArray).size = U.length := by simp [ByteArray.size]
  have hud : (⟨U.toArray⟩ : ByteArray).data.toList = U := by simp
  have HU := Lib.hid hU;
  have hp : Lib.trimPrefix (⟨t.toArray⟩ : ByteArray).data.toList (⟨#[45]⟩ : ByteArray).data.toList = U := by rw [htd, hU]; exact trimPrefix_unsign t
  have HP := Lib.hid hp
  clear hR hj hf hU htd hud hp
  by_cases hk : k = 3
  rotate_left
  · have hkd : (k != 3) = true := by simpa using hk
    have HN : Hid (R = none) := Lib.hid (by rw [HR.out]; simp [Cx.toInt, hk])
    clear hk
    go_enter Tryz.func23, Tryz.ntmps23
    go_wp2_with fail
    refine (Tryz.strings_TrimPrefix _ _ _).mono ?_
    rintro e w' ⟨rfl, rfl⟩
    rw [HP.out]
    go_wp2_with fail
    go_ret2
    rw [HN.out]
    exact ⟨rfl, HB.out⟩
  subst hk
  have hRT : R = Cx.toIntT t := by rw [HR.out]; simp [Cx.toInt]
  have HRT := Lib.hid hRT
  clear hRT HR
  by_cases h0 : U = []
  · subst h0
    have HN : Hid (R = none) := Lib.hid (by rw [HRT.out]; unfold Cx.toIntT; rw [← HU.out]; simp)
    go_enter Tryz.func23, Tryz.ntmps23
    go_wp2_with fail
    refine (Tryz.strings_TrimPrefix _ _ _).mono ?_
    rintro e w' ⟨rfl, rfl⟩
    rw [HP.out]
    go_wp2_with fail
    go_ret2
    rw [HN.out]
    exact ⟨rfl, HB.out⟩
  have h0d : (U == []) = false := by simpa using h0
  by_cases h15 : U.length ≤ 15
  rotate_left
  · have HN : Hid (R = none) := Lib.hid (by rw [HRT.out]; unfold Cx.toIntT; rw [← HU.out, if_neg]; rintro ⟨_, h, _⟩; exact h15 h)
    have h15i : (15 : Int) < (U.length : Int) := by omega
    clear h15
    go_enter Tryz.func23, Tryz.ntmps23
    go_wp2_with fail
    refine (Tryz.strings_TrimPrefix _ _ _).mono ?_
    rintro e w' ⟨rfl, rfl⟩
    rw [HP.out]
    go_wp2_with fail
    go_ret2
    rw [HN.out]
    exact ⟨rfl, HB.out⟩
  have h15i : ¬ (15 : Int) < (U.length : Int) := by omega
  by_cases hd : U.all Cx.isDig = true
  rotate_left
  · have HN : Hid (R = none) := Lib.hid (by rw [HRT.out]; unfold Cx.toIntT; rw [← HU.out, if_neg]; rintro ⟨_, _, h⟩; exact hd h)
    have htn : Lib.trimS U [48, 49, 50, 51, 52, 53, 54, 55, 56, 57] ≠ [] := fun e => hd ((trim_digs U).1 e)
    have HTN := Lib.hid htn
    clear hd htn
    go_enter Tryz.func23, Tryz.ntmps23
    go_wp2_with fail
    refine (Tryz.strings_TrimPrefix _ _ _).mono ?_
    rintro e w' ⟨rfl, rfl⟩
    rw [HP.out]
    go_wp2_with fail
    refine (Any.strings_Trim_laid Tryz.lays160 (by kernel_rfl) ⟨U.toArray⟩ ⟨#[48, 49, 50, 51, 52, 53, 54, 55, 56, 57]⟩ _ (by omega) (by decide) (ascii_of_all (by decide))).mono ?_
    rintro e w2 ⟨rfl, hb⟩
    have HB2 := Lib.hid (HB.out.trans (hb.mono HB.out.size))
    clear hb
    rw [show (⟨U.toArray⟩ : ByteArray).data.toList = U by simp, show (⟨#[48, 49, 50, 51, 52, 53, 54, 55, 56, 57]⟩ : ByteArray).data.toList = [48, 49, 50, 51, 52, 53, 54, 55, 56, 57] from rfl]
    generalize hT : Lib.trimS U [48, 49, 50, 51, 52, 53, 54, 55, 56, 57] = T at HTN
    have htn := HTN.out
    have hTd : (T != []) = true := by simpa using htn
    have hTd2 : (T == []) = false := by simpa using htn
    go_wp2_with fail
    go_ret2
    rw [HN.out]
    exact ⟨rfl, HB2.out⟩
  have htn : Lib.trimS U [48, 49, 50, 51, 52, 53, 54, 55, 56, 57] = [] := (trim_digs U).2 hd
  have HTN := Lib.hid htn
  obtain ⟨n, hn⟩ : ∃ n, R = some n := by
    rw [HRT.out]; unfold Cx.toIntT; rw [← HU.out, if_pos ⟨h0, h15, hd⟩]; exact ⟨_, rfl⟩
  have HA := Lib.hid (atoi_ok (HRT.out.symm.trans hn))
  have HN := Lib.hid hn
  obtain ⟨c0, c1, c2, c3, c4, _⟩ := cells5 (heap_alloc_new w (.cells #[.int .i64 3, .bool is, .string ⟨t.toArray⟩, .slice a ns.length nc, .slice a' ks.length kc] 48))
  clear htn hd hn h0
  go_enter Tryz.func23, Tryz.ntmps23
  go_wp2_with fail
  refine (Tryz.strings_TrimPrefix _ _ _).mono ?_
  rintro e w' ⟨rfl, rfl⟩
  rw [HP.out]
  go_wp2_with fail
  refine (Any.strings_Trim_laid Tryz.lays160 (by kernel_rfl) ⟨U.toArray⟩ ⟨#[48, 49, 50, 51, 52, 53, 54, 55, 56, 57]⟩ _ (by omega) (by decide) (ascii_of_all (by decide))).mono ?_
  rintro e w2 ⟨rfl, hb⟩
  rw [show (⟨U.toArray⟩ : ByteArray).data.toList = U by simp, show (⟨#[48, 49, 50, 51, 52, 53, 54, 55, 56, 57]⟩ : ByteArray).data.toList = [48, 49, 50, 51, 52, 53, 54, 55, 56, 57] from rfl, HTN.out]
  have HB2 := Lib.hid (HB.out.trans (hb.mono HB.out.size))
  have d2 := (hb.cell (p := ⟨w.heap.size, 2, none⟩) (by simp)).trans c2
  clear hb c0 c1 c2 c3 c4
  go_wp2_with fail
  refine (Tryz.strconv_Atoi_ok ⟨t.toArray⟩ (by omega) n (by rw [show (⟨t.toArray⟩ : ByteArray).data.toList = t by simp]; exact HA.out) _).mono ?_
  rintro e w3 ⟨rfl, hw⟩
  have HB3 : Hid (Below w.heap.size w w3) := Lib.hid (by
    rcases hw with rfl | ⟨x, rfl⟩
    · exact HB2.out
    · exact HB2.out.trans ((Joins.below_bytesWorld _ _ _ _ (Nat.le_refl _)).mono HB2.out.size))
  clear hw
  go_wp2_with fail
  go_ret2
  rw [HN.out]
  exact ⟨rfl, HB3.out⟩

end Go.Proofs.YtejlddimokmgjaaGreatDoor
