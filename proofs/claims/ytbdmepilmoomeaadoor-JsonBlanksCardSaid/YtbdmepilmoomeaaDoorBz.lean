/- WALKS: the law JsonBlanks. -/
import Derived.Test.YtbdmepilmoomeaaDoorSh
import Derived.Test.YtbdmepilmoomeaaDoorCxSpread
import Derived.Lib.SlBytesRow
namespace Go.Proofs.YtbdmepilmoomeaaDoor
open Go.RowKit

/-- A row of bytes of the call's own, beside a box that stays. -/
def BI (w : World) (bx : Obj) (v : Value) (acc : List UInt8) (w' : World) : Prop :=
  w'.ownsRowF (w.heap.size + 1) 5 1 v acc.length (Lib.byteCells acc) ∧ Below w.heap.size w w' ∧ w'.heap[w.heap.size]? = some bx
theorem BI.shape {w : World} {bx : Obj} {v : Value} {acc : List UInt8} {w' : World} (h : BI w bx v acc w') : ∃ ao cap, v = .slice ao acc.length cap := by
  rcases h.1.2 with ⟨hv, hn⟩ | ⟨g, cap, cur, fz, hv, _⟩
  · exact ⟨none, 0, by rw [hv, hn]⟩
  · exact ⟨_, _, hv⟩
theorem BI.lt {w : World} {bx : Obj} {v : Value} {acc : List UInt8} {w' : World} (h : BI w bx v acc w') : w.heap.size + 1 ≤ w'.heap.size := heap_lt h.2.2
theorem BI.alloc {w : World} {bx : Obj} {v : Value} {acc : List UInt8} {w' : World} (h : BI w bx v acc w') (o : Obj) : BI w bx v acc (w'.alloc o) :=
  ⟨h.1.alloc o, h.2.1.alloc h.2.1.size o, (Below.heap_alloc _ _ _ (heap_lt h.2.2)).trans h.2.2⟩
theorem BI.drew {w : World} {bx : Obj} {v : Value} {acc : List UInt8} {w' : World} (h : BI w bx v acc w') : BI w bx v acc w'.drew := ⟨h.1, h.2.1.drew, h.2.2⟩
theorem BI.grow {w : World} {bx : Obj} {v v2 : Value} {acc x : List UInt8} {n : Nat} {xs : List Value} {w' w2 : World} (h : BI w bx v acc w') (hown : w2.ownsRowF (w.heap.size + 1) 5 1 v2 n xs) (hg : w'.grownBy w2 v.ownBlock)
    (hn : n = acc.length + x.length) (hx : xs = Lib.byteCells acc ++ Lib.byteCells x) : BI w bx v2 (acc ++ x) w2 := by
  have hb : ∀ g, v.ownBlock = some g → w.heap.size + 1 ≤ g := fun g hg => (h.1.lt g hg).1
  refine ⟨?_, h.2.1.grown hg h.2.1.size (fun g hg => by have := hb g hg; omega), ?_⟩
  · rw [List.length_append, Lib.byteCells_append, ← hn, ← hx]; exact hown
  · rw [hg.block _ (heap_lt h.2.2) (fun e => by have := hb _ e.symm; omega)]; exact h.2.2
theorem BI.bytes {w : World} {bx : Obj} {acc : List UInt8} {g o cap : Nat} {w' : World} (h : BI w bx (.slice (some ⟨g, o, none⟩) acc.length cap) acc w') : o = 0 ∧ Lib.Bytes w' g 0 ⟨acc.toArray⟩ := by
  rcases h.1.2 with ⟨hv, _⟩ | ⟨g', cap', cur, fz, hv, _⟩
  · cases hv
  · injection hv with hv
    injection hv with hv
    injection hv with e1 e2 _
    subst e1; subst e2
    refine ⟨rfl, fun i hi => ?_⟩
    have hi' : i < acc.length := by simpa [ByteArray.size] using hi
    have := h.1.cells (g := g) rfl i (.int .u8 (acc[i]'hi').toNat) (by simp [Lib.byteCells, hi'])
    rw [add_plain0] at this
    rw [this]; rfl
where
  add_plain0 {b o i : Nat} : (⟨b, o, none⟩ : Addr).add i = ⟨b, o + i, none⟩ := by
    unfold Addr.add
    by_cases h : i = 0
    · subst h; simp
    · rw [if_neg h]

theorem BI.conv {w : World} {bx : Obj} {acc : List UInt8} {ao : Option Addr} {cap : Nat} {w' : World} (h : BI w bx (.slice ao acc.length cap) acc w') :
    (convert 34 9 (.slice ao acc.length cap)).run Tryd.prog w' = .ok (.string ⟨acc.toArray⟩) w' := by
  cases ao with
  | none =>
    rcases h.1.2 with ⟨hv, hn⟩ | ⟨g, cap', cur, fz, hv, _⟩
    · have : acc = [] := List.length_eq_zero_iff.1 hn
      subst this
      exact run_convert_bytes_nil w' 34 5 Tryd.underlying34 Tryd.underlying5 _ _ 9 Tryd.underlying9
    · cases hv
  | some x =>
    obtain ⟨g, o, sp⟩ := x
    have hsp : sp = none := by
      rcases h.1.2 with ⟨hv, hn⟩ | ⟨g', cap', cur, fz, hv, _⟩
      · cases hv
      · injection hv with hv; injection hv with hv; injection hv with _ _ e3
    subst hsp
    obtain ⟨rfl, hb⟩ := h.bytes
    have := Lib.run_convert_whole (P := Tryd.prog) w' 34 5 9 Tryd.underlying34 Tryd.underlying5 Tryd.underlying9 g 0 ⟨acc.toArray⟩ hb cap
    rw [show (⟨acc.toArray⟩ : ByteArray).size = acc.length by simp [ByteArray.size]] at this
    exact this
theorem ne_byte {c : UInt8} {k : Nat} (hk : k < 256) (h : c ≠ UInt8.ofNat k) : ((c.toNat : Int) == (k : Int)) = false := by
  rw [beq_eq_false_iff_ne]
  intro e
  refine h (UInt8.toNat_inj.1 ?_)
  rw [UInt8.toNat_ofNat_of_lt' (by simpa using hk)]
  omega
theorem infoByte2 : (Tryd.prog.info? 5).map (fun i => (i.zero, i.size, i.bytes)) = some (some (.int .u8 0), 1, 1) := infoByte

set_option maxRecDepth 100000 in
set_option maxHeartbeats 8000000 in
theorem law_blanks (v : Cx.J) (cs : List Value) (which : Int) (w : World) (ok : Nat → Prop) (hj : JAt w ok v cs) (hf : fit maxLen v) (_h1 : -9223372036854775808 ≤ which) (_h2 : which ≤ 9223372036854775807) (hg : Glb w) (h8 : 8 ≤ w.heap.size) :
    Calls Tryd.prog 4 #[.agg cs.toArray, .int .i64 which] w fun e w' => e = .returned (.bool true) ∧ Below w.heap.size w w' := by
  cases v with
  | mk k is t ns ks =>
  obtain ⟨a, nc, a', kc, rfl⟩ := hj.shape
  have HBX := Lib.hid (heap_alloc_new w (.cells #[.int .i64 k, .bool is, .string ⟨t.toArray⟩, .slice a ns.length nc, .slice a' ks.length kc] 25))
  have HB0 := Lib.hid ((Below.refl w.heap.size w).alloc (Nat.le_refl _) (.cells #[.int .i64 k, .bool is, .string ⟨t.toArray⟩, .slice a ns.length nc, .slice a' ks.length kc] 25))
  have J := Lib.hid hj.all; have F := Lib.hid hf; have HG := Lib.hid hg
  clear hj hf hg
  go_enter Tryd.func4, Tryd.ntmps4
  go_wp2_with fail
  refine (shown_calls _ (HG.out.below HB0.out) (Nat.le_trans h8 HB0.out.size)).mono ?_
  rintro e w1 ⟨rfl, hb⟩
  have B1 := Lib.hid (HB0.out.trans (hb.mono HB0.out.size))
  have X1 := Lib.hid ((hb.block _ (by simp)).trans HBX.out)
  obtain ⟨q0, q1, q2, q3, q4, _⟩ := cells5 X1.out
  clear hb HBX HB0
  go_wp2_with fail
  refine (light_calls (.mk k is t ns ks) [.int .i64 k, .bool is, .string ⟨t.toArray⟩, .slice a ns.length nc, .slice a' ks.length kc] _ _ (J.out.below B1.out) F.out).mono ?_
  rintro e w2 ⟨r, rfl, hr, hb⟩
  have B2 := Lib.hid (B1.out.trans (hb.mono B1.out.size))
  have X2 := Lib.hid ((hb.block _ (heap_lt X1.out)).trans X1.out)
  have HR := Lib.hid hr
  clear hb hr B1 X1 q0 q1 q2 q3 q4
  obtain ⟨q0, q1, q2, q3, q4, _⟩ := cells5 X2.out
  go_wp2_with fail
  refine (Right_calls (.mk k is t ns ks) [.int .i64 k, .bool is, .string ⟨t.toArray⟩, .slice a ns.length nc, .slice a' ks.length kc] _ _ (J.out.below B2.out) F.out (HG.out.below B2.out) (Nat.le_trans h8 B2.out.size)).mono ?_
  rintro e w3 ⟨rfl, hb⟩
  have B3 := Lib.hid (B2.out.trans (hb.mono B2.out.size))
  have X3 := Lib.hid ((hb.block _ (heap_lt X2.out)).trans X2.out)
  clear hb B2 X2 q0 q1 q2 q3 q4
  obtain ⟨q0, q1, q2, q3, q4, _⟩ := cells5 X3.out
  cases r with
  | false =>
    go_wp2_with fail
    go_ret
    exact ⟨rfl, B3.out⟩
  | true =>
  have HFIT := Lib.hid (HR.out rfl).1
  clear HR
  cases hR : Cx.Right (.mk k is t ns ks) with
  | false =>
    clear hR
    go_wp2_with fail
    go_ret
    exact ⟨rfl, B3.out⟩
  | true =>
  have HRT := Lib.hid hR
  clear hR
  have hm : -4 < which.tmod 4 ∧ which.tmod 4 < 4 := by
    have h1 := Int.natAbs_tmod which 4
    have h2 := Nat.mod_lt which.natAbs (show 0 < (4 : Int).natAbs by decide)
    rw [← h1] at h2
    have h3 : (4 : Int).natAbs = 4 := rfl
    rw [h3] at h2
    omega
  obtain ⟨hm1, hm2⟩ := hm
  obtain ⟨j, hjj⟩ : ∃ j : Nat, (which.tmod 4 % 4).toNat = j := ⟨_, rfl⟩
  have hj4 : j < 4 := by omega
  have hbl : ∃ bl : UInt8, [Value.string ⟨#[32]⟩, Value.string ⟨#[9]⟩, Value.string ⟨#[10]⟩, Value.string ⟨#[13]⟩][j]? = some (Value.string ⟨#[bl]⟩) ∧ Cx.isBlank bl = true := by
    have : j = 0 ∨ j = 1 ∨ j = 2 ∨ j = 3 := by omega
    rcases this with h | h | h | h <;> subst h
    · exact ⟨32, rfl, rfl⟩
    · exact ⟨9, rfl, rfl⟩
    · exact ⟨10, rfl, rfl⟩
    · exact ⟨13, rfl, rfl⟩
  obtain ⟨bl, hbl, hblank⟩ := hbl
  have HBLK := Lib.hid hblank
  clear hblank hj4
  have hsz3 : w.heap.size < w3.heap.size := heap_lt X3.out
  go_wp2_with fail
  have BA := Lib.hid (B3.out.alloc B3.out.size (.cells #[.string ⟨#[32]⟩, .string ⟨#[9]⟩, .string ⟨#[10]⟩, .string ⟨#[13]⟩] 9))
  have XA := Lib.hid ((Below.heap_alloc _ (.cells #[.string ⟨#[32]⟩, .string ⟨#[9]⟩, .string ⟨#[10]⟩, .string ⟨#[13]⟩] 9) _ (heap_lt X3.out)).trans X3.out)
  refine (print_calls (.mk k is t ns ks) [.int .i64 k, .bool is, .string ⟨t.toArray⟩, .slice a ns.length nc, .slice a' ks.length kc] _ _ (J.out.below BA.out) (fit_le (by omega) _ HFIT.out) (HG.out.below BA.out) (Nat.le_trans h8 BA.out.size)).mono ?_
  rintro e w4 ⟨rfl, hb⟩
  have B4 := Lib.hid (BA.out.trans (hb.mono BA.out.size))
  have X4 := Lib.hid ((hb.block _ (heap_lt XA.out)).trans XA.out)
  clear hb B3 X3 q0 q1 q2 q3 q4 BA XA hbl hsz3 hjj hm1 hm2
  have hp : Cx.print (.mk k is t ns ks) = Cx.pr (.mk k is t ns ks) := by unfold Cx.print; rw [HRT.out]; rfl
  rw [hp]
  obtain ⟨P, hP⟩ : ∃ P : ByteArray, P = ⟨(Cx.pr (.mk k is t ns ks)).toArray⟩ := ⟨_, rfl⟩
  have hPl : P.data.toList = Cx.pr (.mk k is t ns ks) := by rw [hP]
  have hPs : P.size = (Cx.pr (.mk k is t ns ks)).length := by rw [hP]; simp [ByteArray.size]
  rw [← hP]
  have HPL := Lib.hid hPl; have HPS := Lib.hid hPs
  clear hP hPl hPs hp
  by_cases hl : P.size ≤ 20000
  rotate_left
  · have hl1 : (20000 : Int) < (P.size : Int) := by omega
    go_wp2_with fail
    go_ret
    exact ⟨rfl, B4.out⟩
  have hl1 : ¬ (20000 : Int) < (P.size : Int) := by omega
  have HI0 : Hid (BI w (.cells #[.int .i64 k, .bool is, .string ⟨t.toArray⟩, .slice a ns.length nc, .slice a' ks.length kc] 25 (0, 0)) (.slice none 0 0) [] w4) := Lib.hid ⟨World.ownsRowF_nil _ _ _ _, B4.out, X4.out⟩
  obtain ⟨i0, hi0, hz0, hz1, hz2⟩ := info_parts infoByte
  go_wp2_with fail
  go_loopg [10, 11, 12, 13] (P.size) (fun q y z u x wr => ∃ (i : Nat) (inn esc : Bool) (acc : List UInt8) (ao : Option Addr) (cap : Nat), y = .slice ao acc.length cap ∧ z = .bool inn ∧ u = .bool esc ∧ x = .int .i64 i ∧ q = P.size - i ∧ i ≤ P.size ∧ acc.length ≤ 3 * i ∧ Hid (acc ++ Cx.spread [bl] inn esc (P.data.toList.drop i) = Cx.spread [bl] false false P.data.toList) ∧ Hid (BI w (.cells #[.int .i64 k, .bool is, .string ⟨t.toArray⟩, .slice a ns.length nc, .slice a' ks.length kc] 25 (0, 0)) (.slice ao acc.length cap) acc wr))
  case atStart => exact ⟨0, false, false, [], none, 0, rfl, rfl, rfl, rfl, rfl, Nat.zero_le _, Nat.le_refl _, Lib.hid rfl, HI0⟩
  case round =>
    clear HI0
    obtain ⟨i, inn, esc, acc, ao, cap, rfl, rfl, rfl, rfl, hq, hi, hal, HS, HI⟩ := hrel
    have HQ := Lib.hid hq
    clear hq
    rcases Nat.lt_or_ge i P.size with hlt | hge
    · obtain ⟨c, hc⟩ : ∃ c : UInt8, c = P[i] := ⟨_, rfl⟩
      have hltI : decide ((i : Int) < (P.size : Int)) = true := by simp; omega
      have hdr : P.data.toList.drop i = P[i] :: P.data.toList.drop (i + 1) := List.drop_eq_getElem_cons (show i < P.data.toList.length from hlt)
      have hs := HS.out
      rw [hdr, ← hc] at hs
      conv at hs => lhs; rhs; unfold Cx.spread
      have HSS := Lib.hid hs
      have HC := Lib.hid hc
      clear hs hdr
      cases inn with
      | true =>
        by_cases h34 : c = 34
        · have e34 : (c == 34) = true := by simpa using h34
          have e92 : (c == 92) = false := by rw [h34]; rfl
          have i34 : ((P[i].toNat : Int) == 34) = true := by rw [← hc, h34]; rfl
          have i92 : ((P[i].toNat : Int) == 92) = false := by rw [← hc, h34]; rfl
          clear h34 hc
          cases esc with
          | true =>
            have hs2 : (acc ++ [P[i]]) ++ Cx.spread [bl] true false (P.data.toList.drop (i + 1)) = Cx.spread [bl] false false P.data.toList := by
              rw [← HSS.out, if_neg (by simp), e34, e92, ← HC.out]
              simp
            have HS2 := Lib.hid hs2
            clear hs2
            go_wp2_with (at_builtin; refine wpList_append_ownF _ rfl _ _ 34 rfl (w.heap.size + 1) 5 i0 (.int .u8 0) 1 1 Tryd.underlying34 hi0 hz0 hz1 hz2 rfl (by decide) _ _ _ rfl ((HI.out).1.alloc _) ⟨wr.heap.size, 0, none⟩ 1 1 [.int .u8 P[i].toNat] rfl rfl ?c1 ?c2 ?c3 ?c4 ?c5 ?_)
            case c1 =>
              intro j u hj
              match j, hj with
              | 0, hj => simp at hj; subst hj; simp [Addr.add]
            case c2 => intro u hu; simp at hu; subst hu; rfl
            case c3 => unfold maxLen; try simp only [List.length_append, List.length_singleton]
                       omega
            case c4 => try simp only [List.length_append, List.length_singleton]
                       omega
            case c5 => have := (HI.out).lt; simp; omega
            intro vw5 w5 hown hgrow _
            have hI2 : BI w (.cells #[.int .i64 k, .bool is, .string ⟨t.toArray⟩, .slice a ns.length nc, .slice a' ks.length kc] 25 (0, 0)) vw5 (acc ++ [P[i]]) w5 := ((HI.out).alloc _).grow hown (by simpa using hgrow) (by simp) rfl
            clear hown hgrow
            obtain ⟨aow5, capw5, rfl⟩ := hI2.shape
            have HI2 := Lib.hid hI2
            clear hI2
            go_wp2
            go_roundg (P.size - (i + 1))
            case measure => have := HQ.out; omega
            case rel => exact ⟨i + 1, true, false, acc ++ [P[i]], _, _, rfl, rfl, rfl, by go_num, rfl, by omega, by simp only [List.length_append, List.length_singleton]; omega, HS2, HI2⟩
          | false =>
            have hs2 : (acc ++ [P[i]]) ++ Cx.spread [bl] false false (P.data.toList.drop (i + 1)) = Cx.spread [bl] false false P.data.toList := by
              rw [← HSS.out, if_neg (by simp), e34, e92, ← HC.out]
              simp
            have HS2 := Lib.hid hs2
            clear hs2
            go_wp2_with (at_builtin; refine wpList_append_ownF _ rfl _ _ 34 rfl (w.heap.size + 1) 5 i0 (.int .u8 0) 1 1 Tryd.underlying34 hi0 hz0 hz1 hz2 rfl (by decide) _ _ _ rfl ((HI.out).1.alloc _) ⟨wr.heap.size, 0, none⟩ 1 1 [.int .u8 P[i].toNat] rfl rfl ?c1 ?c2 ?c3 ?c4 ?c5 ?_)
            case c1 =>
              intro j u hj
              match j, hj with
              | 0, hj => simp at hj; subst hj; simp [Addr.add]
            case c2 => intro u hu; simp at hu; subst hu; rfl
            case c3 => unfold maxLen; try simp only [List.length_append, List.length_singleton]
                       omega
            case c4 => try simp only [List.length_append, List.length_singleton]
                       omega
            case c5 => have := (HI.out).lt; simp; omega
            intro vw5 w5 hown hgrow _
            have hI2 : BI w (.cells #[.int .i64 k, .bool is, .string ⟨t.toArray⟩, .slice a ns.length nc, .slice a' ks.length kc] 25 (0, 0)) vw5 (acc ++ [P[i]]) w5 := ((HI.out).alloc _).grow hown (by simpa using hgrow) (by simp) rfl
            clear hown hgrow
            obtain ⟨aow5, capw5, rfl⟩ := hI2.shape
            have HI2 := Lib.hid hI2
            clear hI2
            go_wp2
            go_roundg (P.size - (i + 1))
            case measure => have := HQ.out; omega
            case rel => exact ⟨i + 1, false, false, acc ++ [P[i]], _, _, rfl, rfl, rfl, by go_num, rfl, by omega, by simp only [List.length_append, List.length_singleton]; omega, HS2, HI2⟩
        by_cases h92 : c = 92
        · have e34 : (c == 34) = false := by simpa using h34
          have e92 : (c == 92) = true := by simpa using h92
          have i34 : ((P[i].toNat : Int) == 34) = false := by rw [← hc, h92]; rfl
          have i92 : ((P[i].toNat : Int) == 92) = true := by rw [← hc, h92]; rfl
          clear h34 h92 hc
          cases esc with
          | true =>
            have hs2 : (acc ++ [P[i]]) ++ Cx.spread [bl] true false (P.data.toList.drop (i + 1)) = Cx.spread [bl] false false P.data.toList := by
              rw [← HSS.out, if_neg (by simp), e34, e92, ← HC.out]
              simp
            have HS2 := Lib.hid hs2
            clear hs2
            go_wp2_with (at_builtin; refine wpList_append_ownF _ rfl _ _ 34 rfl (w.heap.size + 1) 5 i0 (.int .u8 0) 1 1 Tryd.underlying34 hi0 hz0 hz1 hz2 rfl (by decide) _ _ _ rfl ((HI.out).1.alloc _) ⟨wr.heap.size, 0, none⟩ 1 1 [.int .u8 P[i].toNat] rfl rfl ?c1 ?c2 ?c3 ?c4 ?c5 ?_)
            case c1 =>
              intro j u hj
              match j, hj with
              | 0, hj => simp at hj; subst hj; simp [Addr.add]
            case c2 => intro u hu; simp at hu; subst hu; rfl
            case c3 => unfold maxLen; try simp only [List.length_append, List.length_singleton]
                       omega
            case c4 => try simp only [List.length_append, List.length_singleton]
                       omega
            case c5 => have := (HI.out).lt; simp; omega
            intro vw5 w5 hown hgrow _
            have hI2 : BI w (.cells #[.int .i64 k, .bool is, .string ⟨t.toArray⟩, .slice a ns.length nc, .slice a' ks.length kc] 25 (0, 0)) vw5 (acc ++ [P[i]]) w5 := ((HI.out).alloc _).grow hown (by simpa using hgrow) (by simp) rfl
            clear hown hgrow
            obtain ⟨aow5, capw5, rfl⟩ := hI2.shape
            have HI2 := Lib.hid hI2
            clear hI2
            go_wp2
            go_roundg (P.size - (i + 1))
            case measure => have := HQ.out; omega
            case rel => exact ⟨i + 1, true, false, acc ++ [P[i]], _, _, rfl, rfl, rfl, by go_num, rfl, by omega, by simp only [List.length_append, List.length_singleton]; omega, HS2, HI2⟩
          | false =>
            have hs2 : (acc ++ [P[i]]) ++ Cx.spread [bl] true true (P.data.toList.drop (i + 1)) = Cx.spread [bl] false false P.data.toList := by
              rw [← HSS.out, if_neg (by simp), e34, e92, ← HC.out]
              simp
            have HS2 := Lib.hid hs2
            clear hs2
            go_wp2_with (at_builtin; refine wpList_append_ownF _ rfl _ _ 34 rfl (w.heap.size + 1) 5 i0 (.int .u8 0) 1 1 Tryd.underlying34 hi0 hz0 hz1 hz2 rfl (by decide) _ _ _ rfl ((HI.out).1.alloc _) ⟨wr.heap.size, 0, none⟩ 1 1 [.int .u8 P[i].toNat] rfl rfl ?c1 ?c2 ?c3 ?c4 ?c5 ?_)
            case c1 =>
              intro j u hj
              match j, hj with
              | 0, hj => simp at hj; subst hj; simp [Addr.add]
            case c2 => intro u hu; simp at hu; subst hu; rfl
            case c3 => unfold maxLen; try simp only [List.length_append, List.length_singleton]
                       omega
            case c4 => try simp only [List.length_append, List.length_singleton]
                       omega
            case c5 => have := (HI.out).lt; simp; omega
            intro vw5 w5 hown hgrow _
            have hI2 : BI w (.cells #[.int .i64 k, .bool is, .string ⟨t.toArray⟩, .slice a ns.length nc, .slice a' ks.length kc] 25 (0, 0)) vw5 (acc ++ [P[i]]) w5 := ((HI.out).alloc _).grow hown (by simpa using hgrow) (by simp) rfl
            clear hown hgrow
            obtain ⟨aow5, capw5, rfl⟩ := hI2.shape
            have HI2 := Lib.hid hI2
            clear hI2
            go_wp2
            go_roundg (P.size - (i + 1))
            case measure => have := HQ.out; omega
            case rel => exact ⟨i + 1, true, true, acc ++ [P[i]], _, _, rfl, rfl, rfl, by go_num, rfl, by omega, by simp only [List.length_append, List.length_singleton]; omega, HS2, HI2⟩
        · have e34 : (c == 34) = false := by simpa using h34
          have e92 : (c == 92) = false := by simpa using h92
          have i34 : ((P[i].toNat : Int) == 34) = false := by rw [← hc]; exact ne_byte (k := 34) (by decide) h34
          have i92 : ((P[i].toNat : Int) == 92) = false := by rw [← hc]; exact ne_byte (k := 92) (by decide) h92
          clear h34 h92 hc
          cases esc with
          | true =>
            have hs2 : (acc ++ [P[i]]) ++ Cx.spread [bl] true false (P.data.toList.drop (i + 1)) = Cx.spread [bl] false false P.data.toList := by
              rw [← HSS.out, if_neg (by simp), e34, e92, ← HC.out]
              simp
            have HS2 := Lib.hid hs2
            clear hs2
            go_wp2_with (at_builtin; refine wpList_append_ownF _ rfl _ _ 34 rfl (w.heap.size + 1) 5 i0 (.int .u8 0) 1 1 Tryd.underlying34 hi0 hz0 hz1 hz2 rfl (by decide) _ _ _ rfl ((HI.out).1.alloc _) ⟨wr.heap.size, 0, none⟩ 1 1 [.int .u8 P[i].toNat] rfl rfl ?c1 ?c2 ?c3 ?c4 ?c5 ?_)
            case c1 =>
              intro j u hj
              match j, hj with
              | 0, hj => simp at hj; subst hj; simp [Addr.add]
            case c2 => intro u hu; simp at hu; subst hu; rfl
            case c3 => unfold maxLen; try simp only [List.length_append, List.length_singleton]
                       omega
            case c4 => try simp only [List.length_append, List.length_singleton]
                       omega
            case c5 => have := (HI.out).lt; simp; omega
            intro vw5 w5 hown hgrow _
            have hI2 : BI w (.cells #[.int .i64 k, .bool is, .string ⟨t.toArray⟩, .slice a ns.length nc, .slice a' ks.length kc] 25 (0, 0)) vw5 (acc ++ [P[i]]) w5 := ((HI.out).alloc _).grow hown (by simpa using hgrow) (by simp) rfl
            clear hown hgrow
            obtain ⟨aow5, capw5, rfl⟩ := hI2.shape
            have HI2 := Lib.hid hI2
            clear hI2
            go_wp2
            go_roundg (P.size - (i + 1))
            case measure => have := HQ.out; omega
            case rel => exact ⟨i + 1, true, false, acc ++ [P[i]], _, _, rfl, rfl, rfl, by go_num, rfl, by omega, by simp only [List.length_append, List.length_singleton]; omega, HS2, HI2⟩
          | false =>
            have hs2 : (acc ++ [P[i]]) ++ Cx.spread [bl] true false (P.data.toList.drop (i + 1)) = Cx.spread [bl] false false P.data.toList := by
              rw [← HSS.out, if_neg (by simp), e34, e92, ← HC.out]
              simp
            have HS2 := Lib.hid hs2
            clear hs2
            go_wp2_with (at_builtin; refine wpList_append_ownF _ rfl _ _ 34 rfl (w.heap.size + 1) 5 i0 (.int .u8 0) 1 1 Tryd.underlying34 hi0 hz0 hz1 hz2 rfl (by decide) _ _ _ rfl ((HI.out).1.alloc _) ⟨wr.heap.size, 0, none⟩ 1 1 [.int .u8 P[i].toNat] rfl rfl ?c1 ?c2 ?c3 ?c4 ?c5 ?_)
            case c1 =>
              intro j u hj
              match j, hj with
              | 0, hj => simp at hj; subst hj; simp [Addr.add]
            case c2 => intro u hu; simp at hu; subst hu; rfl
            case c3 => unfold maxLen; try simp only [List.length_append, List.length_singleton]
                       omega
            case c4 => try simp only [List.length_append, List.length_singleton]
                       omega
            case c5 => have := (HI.out).lt; simp; omega
            intro vw5 w5 hown hgrow _
            have hI2 : BI w (.cells #[.int .i64 k, .bool is, .string ⟨t.toArray⟩, .slice a ns.length nc, .slice a' ks.length kc] 25 (0, 0)) vw5 (acc ++ [P[i]]) w5 := ((HI.out).alloc _).grow hown (by simpa using hgrow) (by simp) rfl
            clear hown hgrow
            obtain ⟨aow5, capw5, rfl⟩ := hI2.shape
            have HI2 := Lib.hid hI2
            clear hI2
            go_wp2
            go_roundg (P.size - (i + 1))
            case measure => have := HQ.out; omega
            case rel => exact ⟨i + 1, true, false, acc ++ [P[i]], _, _, rfl, rfl, rfl, by go_num, rfl, by omega, by simp only [List.length_append, List.length_singleton]; omega, HS2, HI2⟩
      | false =>
        cases hsp : Cx.special c with
        | true =>
          have hbs : (⟨#[bl]⟩ : ByteArray).size = 1 := rfl
          have hs2 : (((acc ++ [bl]) ++ [P[i]]) ++ [bl]) ++ Cx.spread [bl] false esc (P.data.toList.drop (i + 1)) = Cx.spread [bl] false false P.data.toList := by
            rw [← HSS.out, if_pos (by simp [hsp])]
            simp [HC.out]
          have HS2 := Lib.hid hs2
          clear hs2
          have hcase : c = 44 ∨ c = 58 ∨ c = 91 ∨ c = 93 ∨ c = 123 ∨ c = 125 := by
            unfold Cx.special at hsp
            simpa [or_assoc] using hsp
          clear hsp
          rcases hcase with h | h | h | h | h | h
          · have i44 : ((P[i].toNat : Int) == 44) = true := by rw [← hc, h]; rfl
            have i58 : ((P[i].toNat : Int) == 58) = false := by rw [← hc, h]; rfl
            have i91 : ((P[i].toNat : Int) == 91) = false := by rw [← hc, h]; rfl
            have i93 : ((P[i].toNat : Int) == 93) = false := by rw [← hc, h]; rfl
            have i123 : ((P[i].toNat : Int) == 123) = false := by rw [← hc, h]; rfl
            have i125 : ((P[i].toNat : Int) == 125) = false := by rw [← hc, h]; rfl
            clear h hc
            go_wp2_with (at_builtin; refine Lib.wpList_append_own_stringF _ rfl _ _ 34 9 rfl (w.heap.size + 1) 5 i0 Tryd.underlying34 Tryd.underlying9 hi0 hz0 hz1 hz2 _ _ _ rfl (HI.out).1 ⟨#[bl]⟩ rfl ?c3 ?c4 ?c5 ?_)
            case c3 => unfold maxLen; rw [hbs]; try simp only [List.length_append, List.length_singleton]
                       omega
            case c4 => rw [hbs]; try simp only [List.length_append, List.length_singleton]
                       omega
            case c5 => exact (HI.out).lt
            intro vw5 w5 hown hgrow _
            have hI2 : BI w (.cells #[.int .i64 k, .bool is, .string ⟨t.toArray⟩, .slice a ns.length nc, .slice a' ks.length kc] 25 (0, 0)) vw5 (acc ++ [bl]) w5 := (HI.out).grow hown (by simpa using hgrow) (by simp [hbs]) (by simp [Lib.strCells_eq, Lib.byteCells])
            clear hown hgrow
            obtain ⟨aow5, capw5, rfl⟩ := hI2.shape
            go_wp2_with (at_builtin; refine wpList_append_ownF _ rfl _ _ 34 rfl (w.heap.size + 1) 5 i0 (.int .u8 0) 1 1 Tryd.underlying34 hi0 hz0 hz1 hz2 rfl (by decide) _ _ _ rfl ((hI2).1.alloc _) ⟨w5.heap.size, 0, none⟩ 1 1 [.int .u8 P[i].toNat] rfl rfl ?c1 ?c2 ?c3 ?c4 ?c5 ?_)
            case c1 =>
              intro j u hj
              match j, hj with
              | 0, hj => simp at hj; subst hj; simp [Addr.add]
            case c2 => intro u hu; simp at hu; subst hu; rfl
            case c3 => unfold maxLen; try simp only [List.length_append, List.length_singleton]
                       omega
            case c4 => try simp only [List.length_append, List.length_singleton]
                       omega
            case c5 => have := (hI2).lt; simp; omega
            intro vw6 w6 hown hgrow _
            have hI3 : BI w (.cells #[.int .i64 k, .bool is, .string ⟨t.toArray⟩, .slice a ns.length nc, .slice a' ks.length kc] 25 (0, 0)) vw6 ((acc ++ [bl]) ++ [P[i]]) w6 := ((hI2).alloc _).grow hown (by simpa using hgrow) (by simp) rfl
            clear hown hgrow
            obtain ⟨aow6, capw6, rfl⟩ := hI3.shape
            go_wp2_with (at_builtin; refine Lib.wpList_append_own_stringF _ rfl _ _ 34 9 rfl (w.heap.size + 1) 5 i0 Tryd.underlying34 Tryd.underlying9 hi0 hz0 hz1 hz2 _ _ _ rfl (hI3).1 ⟨#[bl]⟩ rfl ?c3 ?c4 ?c5 ?_)
            case c3 => unfold maxLen; rw [hbs]; try simp only [List.length_append, List.length_singleton]
                       omega
            case c4 => rw [hbs]; try simp only [List.length_append, List.length_singleton]
                       omega
            case c5 => exact (hI3).lt
            intro vw7 w7 hown hgrow _
            have hI4 : BI w (.cells #[.int .i64 k, .bool is, .string ⟨t.toArray⟩, .slice a ns.length nc, .slice a' ks.length kc] 25 (0, 0)) vw7 (((acc ++ [bl]) ++ [P[i]]) ++ [bl]) w7 := (hI3).grow hown (by simpa using hgrow) (by simp [hbs]) (by simp [Lib.strCells_eq, Lib.byteCells])
            clear hown hgrow
            obtain ⟨aow7, capw7, rfl⟩ := hI4.shape
            have HI4 := Lib.hid hI4
            clear hI2 hI3 hI4
            go_wp2
            go_roundg (P.size - (i + 1))
            case measure => have := HQ.out; omega
            case rel => exact ⟨i + 1, false, esc, _, _, _, rfl, rfl, rfl, by go_num, rfl, by omega, by simp only [List.length_append, List.length_singleton]; omega, HS2, HI4⟩
          · have i44 : ((P[i].toNat : Int) == 44) = false := by rw [← hc, h]; rfl
            have i58 : ((P[i].toNat : Int) == 58) = true := by rw [← hc, h]; rfl
            have i91 : ((P[i].toNat : Int) == 91) = false := by rw [← hc, h]; rfl
            have i93 : ((P[i].toNat : Int) == 93) = false := by rw [← hc, h]; rfl
            have i123 : ((P[i].toNat : Int) == 123) = false := by rw [← hc, h]; rfl
            have i125 : ((P[i].toNat : Int) == 125) = false := by rw [← hc, h]; rfl
            clear h hc
            go_wp2_with (at_builtin; refine Lib.wpList_append_own_stringF _ rfl _ _ 34 9 rfl (w.heap.size + 1) 5 i0 Tryd.underlying34 Tryd.underlying9 hi0 hz0 hz1 hz2 _ _ _ rfl (HI.out).1 ⟨#[bl]⟩ rfl ?c3 ?c4 ?c5 ?_)
            case c3 => unfold maxLen; rw [hbs]; try simp only [List.length_append, List.length_singleton]
                       omega
            case c4 => rw [hbs]; try simp only [List.length_append, List.length_singleton]
                       omega
            case c5 => exact (HI.out).lt
            intro vw5 w5 hown hgrow _
            have hI2 : BI w (.cells #[.int .i64 k, .bool is, .string ⟨t.toArray⟩, .slice a ns.length nc, .slice a' ks.length kc] 25 (0, 0)) vw5 (acc ++ [bl]) w5 := (HI.out).grow hown (by simpa using hgrow) (by simp [hbs]) (by simp [Lib.strCells_eq, Lib.byteCells])
            clear hown hgrow
            obtain ⟨aow5, capw5, rfl⟩ := hI2.shape
            go_wp2_with (at_builtin; refine wpList_append_ownF _ rfl _ _ 34 rfl (w.heap.size + 1) 5 i0 (.int .u8 0) 1 1 Tryd.underlying34 hi0 hz0 hz1 hz2 rfl (by decide) _ _ _ rfl ((hI2).1.alloc _) ⟨w5.heap.size, 0, none⟩ 1 1 [.int .u8 P[i].toNat] rfl rfl ?c1 ?c2 ?c3 ?c4 ?c5 ?_)
            case c1 =>
              intro j u hj
              match j, hj with
              | 0, hj => simp at hj; subst hj; simp [Addr.add]
            case c2 => intro u hu; simp at hu; subst hu; rfl
            case c3 => unfold maxLen; try simp only [List.length_append, List.length_singleton]
                       omega
            case c4 => try simp only [List.length_append, List.length_singleton]
                       omega
            case c5 => have := (hI2).lt; simp; omega
            intro vw6 w6 hown hgrow _
            have hI3 : BI w (.cells #[.int .i64 k, .bool is, .string ⟨t.toArray⟩, .slice a ns.length nc, .slice a' ks.length kc] 25 (0, 0)) vw6 ((acc ++ [bl]) ++ [P[i]]) w6 := ((hI2).alloc _).grow hown (by simpa using hgrow) (by simp) rfl
            clear hown hgrow
            obtain ⟨aow6, capw6, rfl⟩ := hI3.shape
            go_wp2_with (at_builtin; refine Lib.wpList_append_own_stringF _ rfl _ _ 34 9 rfl (w.heap.size + 1) 5 i0 Tryd.underlying34 Tryd.underlying9 hi0 hz0 hz1 hz2 _ _ _ rfl (hI3).1 ⟨#[bl]⟩ rfl ?c3 ?c4 ?c5 ?_)
            case c3 => unfold maxLen; rw [hbs]; try simp only [List.length_append, List.length_singleton]
                       omega
            case c4 => rw [hbs]; try simp only [List.length_append, List.length_singleton]
                       omega
            case c5 => exact (hI3).lt
            intro vw7 w7 hown hgrow _
            have hI4 : BI w (.cells #[.int .i64 k, .bool is, .string ⟨t.toArray⟩, .slice a ns.length nc, .slice a' ks.length kc] 25 (0, 0)) vw7 (((acc ++ [bl]) ++ [P[i]]) ++ [bl]) w7 := (hI3).grow hown (by simpa using hgrow) (by simp [hbs]) (by simp [Lib.strCells_eq, Lib.byteCells])
            clear hown hgrow
            obtain ⟨aow7, capw7, rfl⟩ := hI4.shape
            have HI4 := Lib.hid hI4
            clear hI2 hI3 hI4
            go_wp2
            go_roundg (P.size - (i + 1))
            case measure => have := HQ.out; omega
            case rel => exact ⟨i + 1, false, esc, _, _, _, rfl, rfl, rfl, by go_num, rfl, by omega, by simp only [List.length_append, List.length_singleton]; omega, HS2, HI4⟩
          · have i44 : ((P[i].toNat : Int) == 44) = false := by rw [← hc, h]; rfl
            have i58 : ((P[i].toNat : Int) == 58) = false := by rw [← hc, h]; rfl
            have i91 : ((P[i].toNat : Int) == 91) = true := by rw [← hc, h]; rfl
            have i93 : ((P[i].toNat : Int) == 93) = false := by rw [← hc, h]; rfl
            have i123 : ((P[i].toNat : Int) == 123) = false := by rw [← hc, h]; rfl
            have i125 : ((P[i].toNat : Int) == 125) = false := by rw [← hc, h]; rfl
            clear h hc
            go_wp2_with (at_builtin; refine Lib.wpList_append_own_stringF _ rfl _ _ 34 9 rfl (w.heap.size + 1) 5 i0 Tryd.underlying34 Tryd.underlying9 hi0 hz0 hz1 hz2 _ _ _ rfl (HI.out).1 ⟨#[bl]⟩ rfl ?c3 ?c4 ?c5 ?_)
            case c3 => unfold maxLen; rw [hbs]; try simp only [List.length_append, List.length_singleton]
                       omega
            case c4 => rw [hbs]; try simp only [List.length_append, List.length_singleton]
                       omega
            case c5 => exact (HI.out).lt
            intro vw5 w5 hown hgrow _
            have hI2 : BI w (.cells #[.int .i64 k, .bool is, .string ⟨t.toArray⟩, .slice a ns.length nc, .slice a' ks.length kc] 25 (0, 0)) vw5 (acc ++ [bl]) w5 := (HI.out).grow hown (by simpa using hgrow) (by simp [hbs]) (by simp [Lib.strCells_eq, Lib.byteCells])
            clear hown hgrow
            obtain ⟨aow5, capw5, rfl⟩ := hI2.shape
            go_wp2_with (at_builtin; refine wpList_append_ownF _ rfl _ _ 34 rfl (w.heap.size + 1) 5 i0 (.int .u8 0) 1 1 Tryd.underlying34 hi0 hz0 hz1 hz2 rfl (by decide) _ _ _ rfl ((hI2).1.alloc _) ⟨w5.heap.size, 0, none⟩ 1 1 [.int .u8 P[i].toNat] rfl rfl ?c1 ?c2 ?c3 ?c4 ?c5 ?_)
            case c1 =>
              intro j u hj
              match j, hj with
              | 0, hj => simp at hj; subst hj; simp [Addr.add]
            case c2 => intro u hu; simp at hu; subst hu; rfl
            case c3 => unfold maxLen; try simp only [List.length_append, List.length_singleton]
                       omega
            case c4 => try simp only [List.length_append, List.length_singleton]
                       omega
            case c5 => have := (hI2).lt; simp; omega
            intro vw6 w6 hown hgrow _
            have hI3 : BI w (.cells #[.int .i64 k, .bool is, .string ⟨t.toArray⟩, .slice a ns.length nc, .slice a' ks.length kc] 25 (0, 0)) vw6 ((acc ++ [bl]) ++ [P[i]]) w6 := ((hI2).alloc _).grow hown (by simpa using hgrow) (by simp) rfl
            clear hown hgrow
            obtain ⟨aow6, capw6, rfl⟩ := hI3.shape
            go_wp2_with (at_builtin; refine Lib.wpList_append_own_stringF _ rfl _ _ 34 9 rfl (w.heap.size + 1) 5 i0 Tryd.underlying34 Tryd.underlying9 hi0 hz0 hz1 hz2 _ _ _ rfl (hI3).1 ⟨#[bl]⟩ rfl ?c3 ?c4 ?c5 ?_)
            case c3 => unfold maxLen; rw [hbs]; try simp only [List.length_append, List.length_singleton]
                       omega
            case c4 => rw [hbs]; try simp only [List.length_append, List.length_singleton]
                       omega
            case c5 => exact (hI3).lt
            intro vw7 w7 hown hgrow _
            have hI4 : BI w (.cells #[.int .i64 k, .bool is, .string ⟨t.toArray⟩, .slice a ns.length nc, .slice a' ks.length kc] 25 (0, 0)) vw7 (((acc ++ [bl]) ++ [P[i]]) ++ [bl]) w7 := (hI3).grow hown (by simpa using hgrow) (by simp [hbs]) (by simp [Lib.strCells_eq, Lib.byteCells])
            clear hown hgrow
            obtain ⟨aow7, capw7, rfl⟩ := hI4.shape
            have HI4 := Lib.hid hI4
            clear hI2 hI3 hI4
            go_wp2
            go_roundg (P.size - (i + 1))
            case measure => have := HQ.out; omega
            case rel => exact ⟨i + 1, false, esc, _, _, _, rfl, rfl, rfl, by go_num, rfl, by omega, by simp only [List.length_append, List.length_singleton]; omega, HS2, HI4⟩
          · have i44 : ((P[i].toNat : Int) == 44) = false := by rw [← hc, h]; rfl
            have i58 : ((P[i].toNat : Int) == 58) = false := by rw [← hc, h]; rfl
            have i91 : ((P[i].toNat : Int) == 91) = false := by rw [← hc, h]; rfl
            have i93 : ((P[i].toNat : Int) == 93) = true := by rw [← hc, h]; rfl
            have i123 : ((P[i].toNat : Int) == 123) = false := by rw [← hc, h]; rfl
            have i125 : ((P[i].toNat : Int) == 125) = false := by rw [← hc, h]; rfl
            clear h hc
            go_wp2_with (at_builtin; refine Lib.wpList_append_own_stringF _ rfl _ _ 34 9 rfl (w.heap.size + 1) 5 i0 Tryd.underlying34 Tryd.underlying9 hi0 hz0 hz1 hz2 _ _ _ rfl (HI.out).1 ⟨#[bl]⟩ rfl ?c3 ?c4 ?c5 ?_)
            case c3 => unfold maxLen; rw [hbs]; try simp only [List.length_append, List.length_singleton]
                       omega
            case c4 => rw [hbs]; try simp only [List.length_append, List.length_singleton]
                       omega
            case c5 => exact (HI.out).lt
            intro vw5 w5 hown hgrow _
            have hI2 : BI w (.cells #[.int .i64 k, .bool is, .string ⟨t.toArray⟩, .slice a ns.length nc, .slice a' ks.length kc] 25 (0, 0)) vw5 (acc ++ [bl]) w5 := (HI.out).grow hown (by simpa using hgrow) (by simp [hbs]) (by simp [Lib.strCells_eq, Lib.byteCells])
            clear hown hgrow
            obtain ⟨aow5, capw5, rfl⟩ := hI2.shape
            go_wp2_with (at_builtin; refine wpList_append_ownF _ rfl _ _ 34 rfl (w.heap.size + 1) 5 i0 (.int .u8 0) 1 1 Tryd.underlying34 hi0 hz0 hz1 hz2 rfl (by decide) _ _ _ rfl ((hI2).1.alloc _) ⟨w5.heap.size, 0, none⟩ 1 1 [.int .u8 P[i].toNat] rfl rfl ?c1 ?c2 ?c3 ?c4 ?c5 ?_)
            case c1 =>
              intro j u hj
              match j, hj with
              | 0, hj => simp at hj; subst hj; simp [Addr.add]
            case c2 => intro u hu; simp at hu; subst hu; rfl
            case c3 => unfold maxLen; try simp only [List.length_append, List.length_singleton]
                       omega
            case c4 => try simp only [List.length_append, List.length_singleton]
                       omega
            case c5 => have := (hI2).lt; simp; omega
            intro vw6 w6 hown hgrow _
            have hI3 : BI w (.cells #[.int .i64 k, .bool is, .string ⟨t.toArray⟩, .slice a ns.length nc, .slice a' ks.length kc] 25 (0, 0)) vw6 ((acc ++ [bl]) ++ [P[i]]) w6 := ((hI2).alloc _).grow hown (by simpa using hgrow) (by simp) rfl
            clear hown hgrow
            obtain ⟨aow6, capw6, rfl⟩ := hI3.shape
            go_wp2_with (at_builtin; refine Lib.wpList_append_own_stringF _ rfl _ _ 34 9 rfl (w.heap.size + 1) 5 i0 Tryd.underlying34 Tryd.underlying9 hi0 hz0 hz1 hz2 _ _ _ rfl (hI3).1 ⟨#[bl]⟩ rfl ?c3 ?c4 ?c5 ?_)
            case c3 => unfold maxLen; rw [hbs]; try simp only [List.length_append, List.length_singleton]
                       omega
            case c4 => rw [hbs]; try simp only [List.length_append, List.length_singleton]
                       omega
            case c5 => exact (hI3).lt
            intro vw7 w7 hown hgrow _
            have hI4 : BI w (.cells #[.int .i64 k, .bool is, .string ⟨t.toArray⟩, .slice a ns.length nc, .slice a' ks.length kc] 25 (0, 0)) vw7 (((acc ++ [bl]) ++ [P[i]]) ++ [bl]) w7 := (hI3).grow hown (by simpa using hgrow) (by simp [hbs]) (by simp [Lib.strCells_eq, Lib.byteCells])
            clear hown hgrow
            obtain ⟨aow7, capw7, rfl⟩ := hI4.shape
            have HI4 := Lib.hid hI4
            clear hI2 hI3 hI4
            go_wp2
            go_roundg (P.size - (i + 1))
            case measure => have := HQ.out; omega
            case rel => exact ⟨i + 1, false, esc, _, _, _, rfl, rfl, rfl, by go_num, rfl, by omega, by simp only [List.length_append, List.length_singleton]; omega, HS2, HI4⟩
          · have i44 : ((P[i].toNat : Int) == 44) = false := by rw [← hc, h]; rfl
            have i58 : ((P[i].toNat : Int) == 58) = false := by rw [← hc, h]; rfl
            have i91 : ((P[i].toNat : Int) == 91) = false := by rw [← hc, h]; rfl
            have i93 : ((P[i].toNat : Int) == 93) = false := by rw [← hc, h]; rfl
            have i123 : ((P[i].toNat : Int) == 123) = true := by rw [← hc, h]; rfl
            have i125 : ((P[i].toNat : Int) == 125) = false := by rw [← hc, h]; rfl
            clear h hc
            go_wp2_with (at_builtin; refine Lib.wpList_append_own_stringF _ rfl _ _ 34 9 rfl (w.heap.size + 1) 5 i0 Tryd.underlying34 Tryd.underlying9 hi0 hz0 hz1 hz2 _ _ _ rfl (HI.out).1 ⟨#[bl]⟩ rfl ?c3 ?c4 ?c5 ?_)
            case c3 => unfold maxLen; rw [hbs]; try simp only [List.length_append, List.length_singleton]
                       omega
            case c4 => rw [hbs]; try simp only [List.length_append, List.length_singleton]
                       omega
            case c5 => exact (HI.out).lt
            intro vw5 w5 hown hgrow _
            have hI2 : BI w (.cells #[.int .i64 k, .bool is, .string ⟨t.toArray⟩, .slice a ns.length nc, .slice a' ks.length kc] 25 (0, 0)) vw5 (acc ++ [bl]) w5 := (HI.out).grow hown (by simpa using hgrow) (by simp [hbs]) (by simp [Lib.strCells_eq, Lib.byteCells])
            clear hown hgrow
            obtain ⟨aow5, capw5, rfl⟩ := hI2.shape
            go_wp2_with (at_builtin; refine wpList_append_ownF _ rfl _ _ 34 rfl (w.heap.size + 1) 5 i0 (.int .u8 0) 1 1 Tryd.underlying34 hi0 hz0 hz1 hz2 rfl (by decide) _ _ _ rfl ((hI2).1.alloc _) ⟨w5.heap.size, 0, none⟩ 1 1 [.int .u8 P[i].toNat] rfl rfl ?c1 ?c2 ?c3 ?c4 ?c5 ?_)
            case c1 =>
              intro j u hj
              match j, hj with
              | 0, hj => simp at hj; subst hj; simp [Addr.add]
            case c2 => intro u hu; simp at hu; subst hu; rfl
            case c3 => unfold maxLen; try simp only [List.length_append, List.length_singleton]
                       omega
            case c4 => try simp only [List.length_append, List.length_singleton]
                       omega
            case c5 => have := (hI2).lt; simp; omega
            intro vw6 w6 hown hgrow _
            have hI3 : BI w (.cells #[.int .i64 k, .bool is, .string ⟨t.toArray⟩, .slice a ns.length nc, .slice a' ks.length kc] 25 (0, 0)) vw6 ((acc ++ [bl]) ++ [P[i]]) w6 := ((hI2).alloc _).grow hown (by simpa using hgrow) (by simp) rfl
            clear hown hgrow
            obtain ⟨aow6, capw6, rfl⟩ := hI3.shape
            go_wp2_with (at_builtin; refine Lib.wpList_append_own_stringF _ rfl _ _ 34 9 rfl (w.heap.size + 1) 5 i0 Tryd.underlying34 Tryd.underlying9 hi0 hz0 hz1 hz2 _ _ _ rfl (hI3).1 ⟨#[bl]⟩ rfl ?c3 ?c4 ?c5 ?_)
            case c3 => unfold maxLen; rw [hbs]; try simp only [List.length_append, List.length_singleton]
                       omega
            case c4 => rw [hbs]; try simp only [List.length_append, List.length_singleton]
                       omega
            case c5 => exact (hI3).lt
            intro vw7 w7 hown hgrow _
            have hI4 : BI w (.cells #[.int .i64 k, .bool is, .string ⟨t.toArray⟩, .slice a ns.length nc, .slice a' ks.length kc] 25 (0, 0)) vw7 (((acc ++ [bl]) ++ [P[i]]) ++ [bl]) w7 := (hI3).grow hown (by simpa using hgrow) (by simp [hbs]) (by simp [Lib.strCells_eq, Lib.byteCells])
            clear hown hgrow
            obtain ⟨aow7, capw7, rfl⟩ := hI4.shape
            have HI4 := Lib.hid hI4
            clear hI2 hI3 hI4
            go_wp2
            go_roundg (P.size - (i + 1))
            case measure => have := HQ.out; omega
            case rel => exact ⟨i + 1, false, esc, _, _, _, rfl, rfl, rfl, by go_num, rfl, by omega, by simp only [List.length_append, List.length_singleton]; omega, HS2, HI4⟩
          · have i44 : ((P[i].toNat : Int) == 44) = false := by rw [← hc, h]; rfl
            have i58 : ((P[i].toNat : Int) == 58) = false := by rw [← hc, h]; rfl
            have i91 : ((P[i].toNat : Int) == 91) = false := by rw [← hc, h]; rfl
            have i93 : ((P[i].toNat : Int) == 93) = false := by rw [← hc, h]; rfl
            have i123 : ((P[i].toNat : Int) == 123) = false := by rw [← hc, h]; rfl
            have i125 : ((P[i].toNat : Int) == 125) = true := by rw [← hc, h]; rfl
            clear h hc
            go_wp2_with (at_builtin; refine Lib.wpList_append_own_stringF _ rfl _ _ 34 9 rfl (w.heap.size + 1) 5 i0 Tryd.underlying34 Tryd.underlying9 hi0 hz0 hz1 hz2 _ _ _ rfl (HI.out).1 ⟨#[bl]⟩ rfl ?c3 ?c4 ?c5 ?_)
            case c3 => unfold maxLen; rw [hbs]; try simp only [List.length_append, List.length_singleton]
                       omega
            case c4 => rw [hbs]; try simp only [List.length_append, List.length_singleton]
                       omega
            case c5 => exact (HI.out).lt
            intro vw5 w5 hown hgrow _
            have hI2 : BI w (.cells #[.int .i64 k, .bool is, .string ⟨t.toArray⟩, .slice a ns.length nc, .slice a' ks.length kc] 25 (0, 0)) vw5 (acc ++ [bl]) w5 := (HI.out).grow hown (by simpa using hgrow) (by simp [hbs]) (by simp [Lib.strCells_eq, Lib.byteCells])
            clear hown hgrow
            obtain ⟨aow5, capw5, rfl⟩ := hI2.shape
            go_wp2_with (at_builtin; refine wpList_append_ownF _ rfl _ _ 34 rfl (w.heap.size + 1) 5 i0 (.int .u8 0) 1 1 Tryd.underlying34 hi0 hz0 hz1 hz2 rfl (by decide) _ _ _ rfl ((hI2).1.alloc _) ⟨w5.heap.size, 0, none⟩ 1 1 [.int .u8 P[i].toNat] rfl rfl ?c1 ?c2 ?c3 ?c4 ?c5 ?_)
            case c1 =>
              intro j u hj
              match j, hj with
              | 0, hj => simp at hj; subst hj; simp [Addr.add]
            case c2 => intro u hu; simp at hu; subst hu; rfl
            case c3 => unfold maxLen; try simp only [List.length_append, List.length_singleton]
                       omega
            case c4 => try simp only [List.length_append, List.length_singleton]
                       omega
            case c5 => have := (hI2).lt; simp; omega
            intro vw6 w6 hown hgrow _
            have hI3 : BI w (.cells #[.int .i64 k, .bool is, .string ⟨t.toArray⟩, .slice a ns.length nc, .slice a' ks.length kc] 25 (0, 0)) vw6 ((acc ++ [bl]) ++ [P[i]]) w6 := ((hI2).alloc _).grow hown (by simpa using hgrow) (by simp) rfl
            clear hown hgrow
            obtain ⟨aow6, capw6, rfl⟩ := hI3.shape
            go_wp2_with (at_builtin; refine Lib.wpList_append_own_stringF _ rfl _ _ 34 9 rfl (w.heap.size + 1) 5 i0 Tryd.underlying34 Tryd.underlying9 hi0 hz0 hz1 hz2 _ _ _ rfl (hI3).1 ⟨#[bl]⟩ rfl ?c3 ?c4 ?c5 ?_)
            case c3 => unfold maxLen; rw [hbs]; try simp only [List.length_append, List.length_singleton]
                       omega
            case c4 => rw [hbs]; try simp only [List.length_append, List.length_singleton]
                       omega
            case c5 => exact (hI3).lt
            intro vw7 w7 hown hgrow _
            have hI4 : BI w (.cells #[.int .i64 k, .bool is, .string ⟨t.toArray⟩, .slice a ns.length nc, .slice a' ks.length kc] 25 (0, 0)) vw7 (((acc ++ [bl]) ++ [P[i]]) ++ [bl]) w7 := (hI3).grow hown (by simpa using hgrow) (by simp [hbs]) (by simp [Lib.strCells_eq, Lib.byteCells])
            clear hown hgrow
            obtain ⟨aow7, capw7, rfl⟩ := hI4.shape
            have HI4 := Lib.hid hI4
            clear hI2 hI3 hI4
            go_wp2
            go_roundg (P.size - (i + 1))
            case measure => have := HQ.out; omega
            case rel => exact ⟨i + 1, false, esc, _, _, _, rfl, rfl, rfl, by go_num, rfl, by omega, by simp only [List.length_append, List.length_singleton]; omega, HS2, HI4⟩
        | false =>
          have hno : c ≠ 44 ∧ c ≠ 58 ∧ c ≠ 91 ∧ c ≠ 93 ∧ c ≠ 123 ∧ c ≠ 125 := by
            unfold Cx.special at hsp
            simpa [and_assoc] using hsp
          have i44 : ((P[i].toNat : Int) == 44) = false := by rw [← hc]; exact ne_byte (k := 44) (by decide) hno.1
          have i58 : ((P[i].toNat : Int) == 58) = false := by rw [← hc]; exact ne_byte (k := 58) (by decide) hno.2.1
          have i91 : ((P[i].toNat : Int) == 91) = false := by rw [← hc]; exact ne_byte (k := 91) (by decide) hno.2.2.1
          have i93 : ((P[i].toNat : Int) == 93) = false := by rw [← hc]; exact ne_byte (k := 93) (by decide) hno.2.2.2.1
          have i123 : ((P[i].toNat : Int) == 123) = false := by rw [← hc]; exact ne_byte (k := 123) (by decide) hno.2.2.2.2.1
          have i125 : ((P[i].toNat : Int) == 125) = false := by rw [← hc]; exact ne_byte (k := 125) (by decide) hno.2.2.2.2.2
          have HSP := Lib.hid hsp
          clear hno hsp
          by_cases h34 : c = 34
          · have e34 : (c == 34) = true := by simpa using h34
            have e92 : (c == 92) = false := by rw [h34]; rfl
            have i34 : ((P[i].toNat : Int) == 34) = true := by rw [← hc, h34]; rfl
            have i92 : ((P[i].toNat : Int) == 92) = false := by rw [← hc, h34]; rfl
            clear h34 hc
            cases esc with
            | true =>
              have hs2 : (acc ++ [P[i]]) ++ Cx.spread [bl] false false (P.data.toList.drop (i + 1)) = Cx.spread [bl] false false P.data.toList := by
                rw [← HSS.out, if_neg (by rw [HSP.out]; simp), e34, e92, ← HC.out]
                simp
              have HS2 := Lib.hid hs2
              clear hs2
              go_wp2_with (at_builtin; refine wpList_append_ownF _ rfl _ _ 34 rfl (w.heap.size + 1) 5 i0 (.int .u8 0) 1 1 Tryd.underlying34 hi0 hz0 hz1 hz2 rfl (by decide) _ _ _ rfl ((HI.out).1.alloc _) ⟨wr.heap.size, 0, none⟩ 1 1 [.int .u8 P[i].toNat] rfl rfl ?c1 ?c2 ?c3 ?c4 ?c5 ?_)
              case c1 =>
                intro j u hj
                match j, hj with
                | 0, hj => simp at hj; subst hj; simp [Addr.add]
              case c2 => intro u hu; simp at hu; subst hu; rfl
              case c3 => unfold maxLen; try simp only [List.length_append, List.length_singleton]
                         omega
              case c4 => try simp only [List.length_append, List.length_singleton]
                         omega
              case c5 => have := (HI.out).lt; simp; omega
              intro vw5 w5 hown hgrow _
              have hI2 : BI w (.cells #[.int .i64 k, .bool is, .string ⟨t.toArray⟩, .slice a ns.length nc, .slice a' ks.length kc] 25 (0, 0)) vw5 (acc ++ [P[i]]) w5 := ((HI.out).alloc _).grow hown (by simpa using hgrow) (by simp) rfl
              clear hown hgrow
              obtain ⟨aow5, capw5, rfl⟩ := hI2.shape
              have HI2 := Lib.hid hI2
              clear hI2
              go_wp2
              go_roundg (P.size - (i + 1))
              case measure => have := HQ.out; omega
              case rel => exact ⟨i + 1, false, false, acc ++ [P[i]], _, _, rfl, rfl, rfl, by go_num, rfl, by omega, by simp only [List.length_append, List.length_singleton]; omega, HS2, HI2⟩
            | false =>
              have hs2 : (acc ++ [P[i]]) ++ Cx.spread [bl] true false (P.data.toList.drop (i + 1)) = Cx.spread [bl] false false P.data.toList := by
                rw [← HSS.out, if_neg (by rw [HSP.out]; simp), e34, e92, ← HC.out]
                simp
              have HS2 := Lib.hid hs2
              clear hs2
              go_wp2_with (at_builtin; refine wpList_append_ownF _ rfl _ _ 34 rfl (w.heap.size + 1) 5 i0 (.int .u8 0) 1 1 Tryd.underlying34 hi0 hz0 hz1 hz2 rfl (by decide) _ _ _ rfl ((HI.out).1.alloc _) ⟨wr.heap.size, 0, none⟩ 1 1 [.int .u8 P[i].toNat] rfl rfl ?c1 ?c2 ?c3 ?c4 ?c5 ?_)
              case c1 =>
                intro j u hj
                match j, hj with
                | 0, hj => simp at hj; subst hj; simp [Addr.add]
              case c2 => intro u hu; simp at hu; subst hu; rfl
              case c3 => unfold maxLen; try simp only [List.length_append, List.length_singleton]
                         omega
              case c4 => try simp only [List.length_append, List.length_singleton]
                         omega
              case c5 => have := (HI.out).lt; simp; omega
              intro vw5 w5 hown hgrow _
              have hI2 : BI w (.cells #[.int .i64 k, .bool is, .string ⟨t.toArray⟩, .slice a ns.length nc, .slice a' ks.length kc] 25 (0, 0)) vw5 (acc ++ [P[i]]) w5 := ((HI.out).alloc _).grow hown (by simpa using hgrow) (by simp) rfl
              clear hown hgrow
              obtain ⟨aow5, capw5, rfl⟩ := hI2.shape
              have HI2 := Lib.hid hI2
              clear hI2
              go_wp2
              go_roundg (P.size - (i + 1))
              case measure => have := HQ.out; omega
              case rel => exact ⟨i + 1, true, false, acc ++ [P[i]], _, _, rfl, rfl, rfl, by go_num, rfl, by omega, by simp only [List.length_append, List.length_singleton]; omega, HS2, HI2⟩
          by_cases h92 : c = 92
          · have e34 : (c == 34) = false := by simpa using h34
            have e92 : (c == 92) = true := by simpa using h92
            have i34 : ((P[i].toNat : Int) == 34) = false := by rw [← hc, h92]; rfl
            have i92 : ((P[i].toNat : Int) == 92) = true := by rw [← hc, h92]; rfl
            clear h34 h92 hc
            cases esc with
            | true =>
              have hs2 : (acc ++ [P[i]]) ++ Cx.spread [bl] false false (P.data.toList.drop (i + 1)) = Cx.spread [bl] false false P.data.toList := by
                rw [← HSS.out, if_neg (by rw [HSP.out]; simp), e34, e92, ← HC.out]
                simp
              have HS2 := Lib.hid hs2
              clear hs2
              go_wp2_with (at_builtin; refine wpList_append_ownF _ rfl _ _ 34 rfl (w.heap.size + 1) 5 i0 (.int .u8 0) 1 1 Tryd.underlying34 hi0 hz0 hz1 hz2 rfl (by decide) _ _ _ rfl ((HI.out).1.alloc _) ⟨wr.heap.size, 0, none⟩ 1 1 [.int .u8 P[i].toNat] rfl rfl ?c1 ?c2 ?c3 ?c4 ?c5 ?_)
              case c1 =>
                intro j u hj
                match j, hj with
                | 0, hj => simp at hj; subst hj; simp [Addr.add]
              case c2 => intro u hu; simp at hu; subst hu; rfl
              case c3 => unfold maxLen; try simp only [List.length_append, List.length_singleton]
                         omega
              case c4 => try simp only [List.length_append, List.length_singleton]
                         omega
              case c5 => have := (HI.out).lt; simp; omega
              intro vw5 w5 hown hgrow _
              have hI2 : BI w (.cells #[.int .i64 k, .bool is, .string ⟨t.toArray⟩, .slice a ns.length nc, .slice a' ks.length kc] 25 (0, 0)) vw5 (acc ++ [P[i]]) w5 := ((HI.out).alloc _).grow hown (by simpa using hgrow) (by simp) rfl
              clear hown hgrow
              obtain ⟨aow5, capw5, rfl⟩ := hI2.shape
              have HI2 := Lib.hid hI2
              clear hI2
              go_wp2
              go_roundg (P.size - (i + 1))
              case measure => have := HQ.out; omega
              case rel => exact ⟨i + 1, false, false, acc ++ [P[i]], _, _, rfl, rfl, rfl, by go_num, rfl, by omega, by simp only [List.length_append, List.length_singleton]; omega, HS2, HI2⟩
            | false =>
              have hs2 : (acc ++ [P[i]]) ++ Cx.spread [bl] false false (P.data.toList.drop (i + 1)) = Cx.spread [bl] false false P.data.toList := by
                rw [← HSS.out, if_neg (by rw [HSP.out]; simp), e34, e92, ← HC.out]
                simp
              have HS2 := Lib.hid hs2
              clear hs2
              go_wp2_with (at_builtin; refine wpList_append_ownF _ rfl _ _ 34 rfl (w.heap.size + 1) 5 i0 (.int .u8 0) 1 1 Tryd.underlying34 hi0 hz0 hz1 hz2 rfl (by decide) _ _ _ rfl ((HI.out).1.alloc _) ⟨wr.heap.size, 0, none⟩ 1 1 [.int .u8 P[i].toNat] rfl rfl ?c1 ?c2 ?c3 ?c4 ?c5 ?_)
              case c1 =>
                intro j u hj
                match j, hj with
                | 0, hj => simp at hj; subst hj; simp [Addr.add]
              case c2 => intro u hu; simp at hu; subst hu; rfl
              case c3 => unfold maxLen; try simp only [List.length_append, List.length_singleton]
                         omega
              case c4 => try simp only [List.length_append, List.length_singleton]
                         omega
              case c5 => have := (HI.out).lt; simp; omega
              intro vw5 w5 hown hgrow _
              have hI2 : BI w (.cells #[.int .i64 k, .bool is, .string ⟨t.toArray⟩, .slice a ns.length nc, .slice a' ks.length kc] 25 (0, 0)) vw5 (acc ++ [P[i]]) w5 := ((HI.out).alloc _).grow hown (by simpa using hgrow) (by simp) rfl
              clear hown hgrow
              obtain ⟨aow5, capw5, rfl⟩ := hI2.shape
              have HI2 := Lib.hid hI2
              clear hI2
              go_wp2
              go_roundg (P.size - (i + 1))
              case measure => have := HQ.out; omega
              case rel => exact ⟨i + 1, false, false, acc ++ [P[i]], _, _, rfl, rfl, rfl, by go_num, rfl, by omega, by simp only [List.length_append, List.length_singleton]; omega, HS2, HI2⟩
          · have e34 : (c == 34) = false := by simpa using h34
            have e92 : (c == 92) = false := by simpa using h92
            have i34 : ((P[i].toNat : Int) == 34) = false := by rw [← hc]; exact ne_byte (k := 34) (by decide) h34
            have i92 : ((P[i].toNat : Int) == 92) = false := by rw [← hc]; exact ne_byte (k := 92) (by decide) h92
            clear h34 h92 hc
            cases esc with
            | true =>
              have hs2 : (acc ++ [P[i]]) ++ Cx.spread [bl] false false (P.data.toList.drop (i + 1)) = Cx.spread [bl] false false P.data.toList := by
                rw [← HSS.out, if_neg (by rw [HSP.out]; simp), e34, e92, ← HC.out]
                simp
              have HS2 := Lib.hid hs2
              clear hs2
              go_wp2_with (at_builtin; refine wpList_append_ownF _ rfl _ _ 34 rfl (w.heap.size + 1) 5 i0 (.int .u8 0) 1 1 Tryd.underlying34 hi0 hz0 hz1 hz2 rfl (by decide) _ _ _ rfl ((HI.out).1.alloc _) ⟨wr.heap.size, 0, none⟩ 1 1 [.int .u8 P[i].toNat] rfl rfl ?c1 ?c2 ?c3 ?c4 ?c5 ?_)
              case c1 =>
                intro j u hj
                match j, hj with
                | 0, hj => simp at hj; subst hj; simp [Addr.add]
              case c2 => intro u hu; simp at hu; subst hu; rfl
              case c3 => unfold maxLen; try simp only [List.length_append, List.length_singleton]
                         omega
              case c4 => try simp only [List.length_append, List.length_singleton]
                         omega
              case c5 => have := (HI.out).lt; simp; omega
              intro vw5 w5 hown hgrow _
              have hI2 : BI w (.cells #[.int .i64 k, .bool is, .string ⟨t.toArray⟩, .slice a ns.length nc, .slice a' ks.length kc] 25 (0, 0)) vw5 (acc ++ [P[i]]) w5 := ((HI.out).alloc _).grow hown (by simpa using hgrow) (by simp) rfl
              clear hown hgrow
              obtain ⟨aow5, capw5, rfl⟩ := hI2.shape
              have HI2 := Lib.hid hI2
              clear hI2
              go_wp2
              go_roundg (P.size - (i + 1))
              case measure => have := HQ.out; omega
              case rel => exact ⟨i + 1, false, false, acc ++ [P[i]], _, _, rfl, rfl, rfl, by go_num, rfl, by omega, by simp only [List.length_append, List.length_singleton]; omega, HS2, HI2⟩
            | false =>
              have hs2 : (acc ++ [P[i]]) ++ Cx.spread [bl] false false (P.data.toList.drop (i + 1)) = Cx.spread [bl] false false P.data.toList := by
                rw [← HSS.out, if_neg (by rw [HSP.out]; simp), e34, e92, ← HC.out]
                simp
              have HS2 := Lib.hid hs2
              clear hs2
              go_wp2_with (at_builtin; refine wpList_append_ownF _ rfl _ _ 34 rfl (w.heap.size + 1) 5 i0 (.int .u8 0) 1 1 Tryd.underlying34 hi0 hz0 hz1 hz2 rfl (by decide) _ _ _ rfl ((HI.out).1.alloc _) ⟨wr.heap.size, 0, none⟩ 1 1 [.int .u8 P[i].toNat] rfl rfl ?c1 ?c2 ?c3 ?c4 ?c5 ?_)
              case c1 =>
                intro j u hj
                match j, hj with
                | 0, hj => simp at hj; subst hj; simp [Addr.add]
              case c2 => intro u hu; simp at hu; subst hu; rfl
              case c3 => unfold maxLen; try simp only [List.length_append, List.length_singleton]
                         omega
              case c4 => try simp only [List.length_append, List.length_singleton]
                         omega
              case c5 => have := (HI.out).lt; simp; omega
              intro vw5 w5 hown hgrow _
              have hI2 : BI w (.cells #[.int .i64 k, .bool is, .string ⟨t.toArray⟩, .slice a ns.length nc, .slice a' ks.length kc] 25 (0, 0)) vw5 (acc ++ [P[i]]) w5 := ((HI.out).alloc _).grow hown (by simpa using hgrow) (by simp) rfl
              clear hown hgrow
              obtain ⟨aow5, capw5, rfl⟩ := hI2.shape
              have HI2 := Lib.hid hI2
              clear hI2
              go_wp2
              go_roundg (P.size - (i + 1))
              case measure => have := HQ.out; omega
              case rel => exact ⟨i + 1, false, false, acc ++ [P[i]], _, _, rfl, rfl, rfl, by go_num, rfl, by omega, by simp only [List.length_append, List.length_singleton]; omega, HS2, HI2⟩
    · have hik : i = P.size := by omega
      subst hik
      have hltI : decide ((P.size : Int) < (P.size : Int)) = false := by simp
      have hs := HS.out
      rw [List.drop_of_length_le (by show P.data.toList.length ≤ P.size; exact Nat.le_refl _), show Cx.spread [bl] inn esc [] = [] from rfl, List.append_nil] at hs
      have hcv := HI.out.conv
      have HB7 := Lib.hid HI.out.2.1; have X7 := Lib.hid HI.out.2.2
      have hpz := Cx.parse_spread (v := .mk k is t ns ks) (bl := [bl]) (fun c hc => by simp at hc; rw [hc]; exact HBLK.out) (by simp) HRT.out (by rw [← HPS.out]; exact hl)
      rw [← HPL.out, ← hs] at hpz
      have PZ : Hid (parseT (bl :: (acc ++ [bl])) = (.mk k is t ns ks, 0, 0)) := Lib.hid (by unfold parseT; rw [show bl :: (acc ++ [bl]) = [bl] ++ (acc ++ [bl]) from rfl, hpz])
      have hS1 : ∀ w0 : World, (Op.stringOp .add ⟨#[bl]⟩ ⟨acc.toArray⟩).run Tryd.prog w0 = .ok (.string ⟨(bl :: acc).toArray⟩) w0 := fun w0 => by
        rw [run_string_add_sum w0 _ _ (by simp [ByteArray.size]; omega)]
        congr 2
      have hS2 : ∀ w0 : World, (Op.stringOp .add ⟨(bl :: acc).toArray⟩ ⟨#[bl]⟩).run Tryd.prog w0 = .ok (.string ⟨(bl :: (acc ++ [bl])).toArray⟩) w0 := fun w0 => by
        rw [run_string_add_sum w0 _ _ (by simp [ByteArray.size]; omega)]
        congr 2
      obtain ⟨q0, q1, q2, q3, q4, _⟩ := cells5 X7.out
      have hszr := heap_lt X7.out
      clear hs hpz HS HI
      go_wp2_with fail
      refine (parse_calls ⟨(bl :: (acc ++ [bl])).toArray⟩ _ (HG.out.below HB7.out) (Nat.le_trans h8 HB7.out.size)).mono ?_
      rintro e w8 ⟨cs8, rfl, hj8, hb⟩
      rw [show (⟨(bl :: (acc ++ [bl])).toArray⟩ : ByteArray).data.toList = bl :: (acc ++ [bl]) by simp, PZ.out] at hj8 ⊢
      obtain ⟨ua, unc, ua', ukc, rfl⟩ := hj8.shape
      have X8 := Lib.hid ((hb.block _ (heap_lt X7.out)).trans X7.out)
      have B8 := Lib.hid ((HB7.out.trans (hb.mono HB7.out.size)).alloc (HB7.out.trans (hb.mono HB7.out.size)).size (.cells #[.int .i64 k, .bool is, .string ⟨t.toArray⟩, .slice ua ns.length unc, .slice ua' ks.length ukc] 25))
      have hb6 : Below w8.heap.size w8 (w8.alloc (.cells #[.int .i64 k, .bool is, .string ⟨t.toArray⟩, .slice ua ns.length unc, .slice ua' ks.length ukc] 25)) := (Below.refl _ _).alloc (Nat.le_refl _) _
      have J8 := Lib.hid (J.out.below B8.out).all
      have U8 := Lib.hid (hj8.all.below hb6).all
      have hsz8 := heap_lt X8.out
      clear q0 q1 q2 q3 q4
      obtain ⟨q0, q1, q2, q3, q4, _⟩ := cells5 X8.out
      clear hb hj8 hb6 hS1 hS2 hcv
      go_wp2_with fail
      refine (same_calls _ (.mk k is t ns ks) (.mk k is t ns ks) [.int .i64 k, .bool is, .string ⟨t.toArray⟩, .slice ua ns.length unc, .slice ua' ks.length ukc] [.int .i64 k, .bool is, .string ⟨t.toArray⟩, .slice a ns.length nc, .slice a' ks.length kc] _ _ (Nat.le_refl _) U8.out J8.out F.out F.out).mono ?_
      rintro e w9 ⟨r2, rfl, hr2, hb⟩
      obtain rfl : r2 = true := hr2.2 rfl
      have B9 := Lib.hid (B8.out.trans (hb.mono B8.out.size))
      clear hb hr2
      go_wp2
      go_ret
      exact ⟨rfl, B9.out⟩
end Go.Proofs.YtbdmepilmoomeaaDoor
