/- WALKS: texts. -/
import Derived.Test.YtbdmepilmoomeaaGreatDoorEsc2
import Derived.StillTailTactics
import Derived.Deep.RegionHeld3
namespace Go.Proofs.YtbdmepilmoomeaaGreatDoor
open Go.RowKit

theorem escape_calls (s : ByteArray) (i : Nat) (m : Int) (b : Nat) (w : World) (h : Rd b s i m w) (hg : Glb w) (hb8 : 8 ≤ b) (hi : i < s.size) (hs : s.size ≤ 100000) :
    Calls Tryz.prog 81 #[.pointer (some ⟨b, 0, none⟩)] w (Gives (Cx.escape s.data.toList i) (TextAt b s m) b w) := by
  cases hx : (s.data.toList[i + 1]?).bind Cx.simple with
  | none => exact escape_digits s i m b w h hg hb8 hi hs hx
  | some x =>
    have hi1 : i + 1 < s.size := by
      rcases Nat.lt_or_ge (i + 1) s.size with g | g
      · exact g
      · rw [List.getElem?_eq_none (show s.data.toList.length ≤ i + 1 from g)] at hx; cases hx
    have hx' : Cx.simple s[i + 1] = some x := by
      have : s.data.toList[i + 1]? = some s[i + 1] := by rw [List.getElem?_eq_getElem (show i + 1 < s.data.toList.length from hi1)]; rfl
      rw [this] at hx; exact hx
    refine (escape_simple s i m b x w h hi1 hs hx').mono ?_
    rintro e w' ⟨rfl, h1, h2⟩
    have hr : Cx.escape s.data.toList i = .ok ([x], i + 2) := by unfold Cx.escape; rw [hx]
    exact Gives.ok hr h2 ⟨rfl, h1⟩
theorem escape_short {s b : List UInt8} {i j : Nat} (h : Cx.escape s i = .ok (b, j)) : i + b.length ≤ j := by
  have he : ∀ v, (Cx.enc v).length ≤ 4 := fun v => by unfold Cx.enc; repeat' split
                                                      all_goals simp
  unfold Cx.escape at h
  split at h
  · injection h with h; injection h with h1 h2; subst h1; subst h2; simp
  · split at h
    · cases h
    · split at h
      · split at h
        · cases h
        · split at h
          · injection h with h; injection h with h1 h2; subst h1; subst h2
            have := he; exact Nat.add_le_add_left (Nat.le_trans (he _) (by decide)) _
          · cases h
      · split at h
        · cases h
        · injection h with h; injection h with h1 h2; subst h1; subst h2
          exact Nat.add_le_add_left (Nat.le_trans (he _) (by decide)) _

/-- A builder of the call's own, at a block. -/
def Bld (B c : Nat) (l : List UInt8) (w : World) : Prop := Lib.IsBuilderF 63 5 B c (Lib.byteCells l) w
theorem Bld.kept {B c : Nat} {l : List UInt8} {w w' : World} {b : Nat} (h : Bld B c l w) (k : Mv b w w') (hb : b < B) : Bld B c l w' := by
  have key : ∀ p, Lib.BuilderAtF 63 5 B c p (Lib.byteCells l) w → Lib.BuilderAtF 63 5 B c p (Lib.byteCells l) w' := by
    intro p ⟨hB, v, hbk, hown, hne⟩
    refine ⟨hB, v, k.heap hbk (by omega), hown.kept k ?_, hne⟩
    right; intro e
    have := hown.lt b e; omega
  exact h.imp (key _) (key _)
theorem Bld.drewN {B c : Nat} {l : List UInt8} {w : World} (h : Bld B c l w) (n : Nat) : Bld B c l (w.drewN n) := by
  have key : ∀ p, Lib.BuilderAtF 63 5 B c p (Lib.byteCells l) w → Lib.BuilderAtF 63 5 B c p (Lib.byteCells l) (w.drewN n) := fun p ⟨hB, v, hbk, hown, hne⟩ => ⟨hB, v, hbk, hown, hne⟩
  exact h.imp (key _) (key _)
theorem Bld.lt {B c : Nat} {l : List UInt8} {w : World} (h : Bld B c l w) : B ≤ c ∧ c < w.heap.size := by
  have key : ∀ p, Lib.BuilderAtF 63 5 B c p (Lib.byteCells l) w → B ≤ c ∧ c < w.heap.size := by
    intro p ⟨hB, v, hbk, _, _⟩
    refine ⟨hB, ?_⟩
    rcases Nat.lt_or_ge c w.heap.size with h' | h'
    · exact h'
    · simp [Array.getElem?_eq_none h'] at hbk
  exact h.elim (key _) (key _)
theorem Bld.fresh (w : World) : Bld w.heap.size w.heap.size [] (w.alloc (.cells #[.pointer none, .slice none 0 0] 63)) :=
  .inl ⟨Nat.le_refl _, .slice none 0 0, heap_alloc_new w _, World.ownsRowF_nil _ _ _ _, by simp [Value.ownBlock]⟩

/-- A write to a builder of the call's own. -/
theorem writeString_calls (B c : Nat) (l : List UInt8) (x : ByteArray) (w : World) (h : Bld B c l w) (hlen : l.length + x.size ≤ 140737488355328) (hB : B ≤ w.heap.size) :
    Calls Tryz.prog 47 #[.pointer (some ⟨c, 0, none⟩), .string x] w fun e w' => (∃ v, e = .returned (.tuple #[v, .nilIface])) ∧ Bld B c (l ++ x.data.toList) w' ∧ Below B w w' ∧ Lib.OthersKept 5 (some c) w w' := by
  refine (writeString_k B c _ x w h (by rw [Lib.byteCells_length]; exact hlen) hB).mono ?_
  rintro e w' ⟨rfl, h1, h2, h3⟩
  exact ⟨⟨_, rfl⟩, .inr (by rw [Lib.byteCells_append, ← Lib.strCells_eq]; exact h1), h2, h3⟩
theorem writeByte_calls (B c : Nat) (l : List UInt8) (x : UInt8) (w : World) (h : Bld B c l w) (hlen : l.length + 1 ≤ 140737488355328) (hB : B ≤ w.heap.size) :
    Calls Tryz.prog 45 #[.pointer (some ⟨c, 0, none⟩), .int .u8 x.toNat] w fun e w' => e = .returned .nilIface ∧ Bld B c (l ++ [x]) w' ∧ Below B w w' ∧ Lib.OthersKept 5 (some c) w w' := by
  refine (writeByte_k B c _ x.toNat w h (by rw [Lib.byteCells_length]; exact hlen) hB).mono ?_
  rintro e w' ⟨rfl, h1, h2, h3⟩
  exact ⟨rfl, .inr (by rw [Lib.byteCells_append]; exact h1), h2, h3⟩
theorem string_calls (B c : Nat) (l : List UInt8) (w : World) (h : Bld B c l w) (hB : B ≤ w.heap.size) :
    Calls Tryz.prog 35 #[.pointer (some ⟨c, 0, none⟩)] w fun e w' => e = .returned (.string ⟨l.toArray⟩) ∧ Bld B c l w' ∧ Below B w w' ∧ Lib.OthersKept 5 (some c) w w' :=
  Tryz.Builder_String_any_k B c l w h hB
theorem Mv.belowB {b : Nat} {w0 w w' : World} (h : Mv b w0 w) (k : Below w0.heap.size w w') : Mv b w0 w' :=
  ⟨k.os.trans h.os, k.tape.trans h.tape, k.output.trans h.output, Nat.le_trans h.size k.size, fun i hi hn => (k.block i hi).trans (h.block i hi hn)⟩
theorem Rd.belowB {b B : Nat} {s : ByteArray} {i m : Int} {w w' : World} (h : Rd b s i m w) (k : Below B w w') (hb : b < B) : Rd b s i m w' := by
  unfold Rd; rw [k.block _ hb]; exact h
theorem Glb.belowB {B : Nat} {w w' : World} (h : Glb w) (k : Below B w w') (hB : 8 ≤ B) : Glb w' := h.same fun a _ ha hc => (k.cell (show a.block < B by omega)).trans hc

set_option maxRecDepth 100000 in
set_option maxHeartbeats 4000000 in
theorem text_calls (s : ByteArray) (i : Nat) (m : Int) (b : Nat) (w : World) (h : Rd b s i m w) (hg : Glb w) (hb8 : 8 ≤ b) (hle : i ≤ s.size) (hs : s.size ≤ 100000) :
    Calls Tryz.prog 50 #[.pointer (some ⟨b, 0, none⟩)] w (Gives (Cx.text s.data.toList i) (TextAt b s m) b w) := by
  have hs' : s.size ≤ maxLen := by unfold maxLen; omega
  have hbl := h.lt
  by_cases hq : Cx.peek s.data.toList i = 34
  · have hlt : i < s.size := Cx.peek_lt (s := s.data.toList) (by rw [hq]; decide)
    have hres : Cx.text s.data.toList i = Cx.textN s.data.toList (s.size - i) (i + 1) [] := by unfold Cx.text; rw [if_pos hq]; rfl
    rw [hres]
    obtain ⟨RES, hRES⟩ : ∃ RES, RES = Cx.textN s.data.toList (s.size - i) (i + 1) [] := ⟨_, rfl⟩
    rw [← hRES]
    have HRES := Lib.hid hRES; clear hRES
    have hsi : s[i] = 34 := by rw [← peek_size hlt]; exact hq
    have ha : Rd b s i m (w.alloc (.cells #[.pointer none, .slice none 0 0] 63)) := h.alloc _
    have hga := hg.alloc (.cells #[.pointer none, .slice none 0 0] 63)
    have hba := Bld.fresh w
    have HA := Lib.hid ha; have HG := Lib.hid hga; have HB := Lib.hid hba
    have hma : Mv b w (w.alloc (.cells #[.pointer none, .slice none 0 0] 63)) := (Mv.refl b w).alloc _
    have HM := Lib.hid hma
    clear h hg hq hres ha hga hba hma
    have HSI := Lib.hid hsi; clear hsi
    go_enter Tryz.func50, Tryz.ntmps50
    go_wp2_with fail
    have ht := take_ok s i m b _ HA.out hlt hs'
    rw [HSI.out] at ht
    refine (show Calls Tryz.prog 80 #[.pointer (some ⟨b, 0, none⟩), .int .u8 34] _ _ from ht).mono ?_
    clear ht
    rintro e w1 ⟨rfl, k1, k2⟩
    have kg := HG.out.mv k2 hb8
    have kb := HB.out.kept k2 hbl
    have km := HM.out.trans k2
    have KR := Lib.hid k1; have KG := Lib.hid kg; have KB := Lib.hid kb; have KM := Lib.hid km
    clear k1 k2 kg kb km HA HG HB HM HSI
    go_wp2
    go_loopg [] (s.size - i) (fun q wr => ∃ (j : Nat) (acc : List UInt8), 0 < q ∧ s.size < j + q ∧ j ≤ s.size ∧ acc.length ≤ j ∧ Hid (RES = Cx.textN s.data.toList q j acc) ∧ Rd b s j m wr ∧ Glb wr ∧ Bld w.heap.size w.heap.size acc wr ∧ Mv b w wr)
    case atStart => exact ⟨i + 1, [], by omega, by omega, by omega, by simp, HRES.out, by have := KR.out; rw [show ((i + 1 : Nat) : Int) = (i : Int) + 1 by omega]; exact this, KG.out, KB.out, KM.out⟩
    case round =>
      obtain ⟨j, acc, hq0, hq, hj, hacc, HR, hrd, hgl, hbd, hmv⟩ := hrel
      have c0 := hrd.c0; have c1 := hrd.c1; have hf := hrd.fr 1
      have RD := Lib.hid hrd; have GL := Lib.hid hgl; have BD := Lib.hid hbd; have MV := Lib.hid hmv
      clear hrd hgl hbd hmv KR KG KB KM HRES
      obtain ⟨q, rfl⟩ : ∃ q, gk = q + 1 := ⟨gk - 1, by omega⟩
      have HR2 := HR.out
      rw [Cx.textN_succ] at HR2
      clear HR hq0
      have HR := Lib.hid HR2; clear HR2
      go_wp2_with fail
      refine (peek_calls s j m b _ RD.out hs').mono ?_
      rintro e w2 ⟨rfl, n2, rfl⟩
      rcases Nat.lt_or_ge j s.size with hjs | hjs
      · have hpk : Cx.peek s.data.toList j = s[j] := peek_size hjs
        rw [hpk]
        have HR3 := HR.out
        rw [hpk] at HR3
        have HPK := Lib.hid hpk; clear hpk HR
        by_cases h32 : s[j] < 32
        · rw [if_pos h32] at HR3
          have i32 : s[j].toNat < 32 := by rw [UInt8.lt_iff_toNat_lt] at h32; exact h32
          have HRF := Lib.hid HR3; clear HR3 h32
          go_wp2_with fail
          go_quiet (fail)
          go_wp2_with (go_at_call 26; refine (give_calls _ _ _ _).mono ?_; rintro e w' ⟨rfl, rfl⟩)
          exact ⟨rfl, Gives.err HRF.out (MV.out.drewN _)⟩
        · rw [if_neg h32] at HR3
          have i32 : ¬ ((s[j].toNat : Int) < 32) := by rw [UInt8.lt_iff_toNat_lt] at h32; simp at h32 ⊢; omega
          have d32 : decide ((s[j].toNat : Int) < 32) = false := by simpa using i32
          have dne : ((j : Int) == (s.size : Int)) = false := by simp; omega
          clear h32
          by_cases h34 : s[j] = 34
          · rw [if_pos h34] at HR3
            have HRF := Lib.hid HR3; clear HR3
            have i34 : ((s[j].toNat : Int) == 34) = true := by rw [h34]; rfl
            clear h34
            go_wp2_with fail
            go_quiet (fail)
            obtain ⟨N1, rfl⟩ : ∃ N1, N1 = nq := ⟨nq, rfl⟩
            go_wp2_with fail
            go_quiet (fail)
            obtain ⟨N2, rfl⟩ : ∃ N2, N2 = nq := ⟨nq, rfl⟩
            go_wp2_with fail
            have mv1 := (MV.out.drewN (n2 + N1 + N2)).set (a := ⟨b, 1, none⟩) (.inl rfl) (.int .i64 (j + 1))
            have bd1 := BD.out.kept (((Mv.refl b wr).drewN (n2 + N1 + N2)).set (a := ⟨b, 1, none⟩) (.inl rfl) (.int .i64 (j + 1))) hbl
            have rd1 := (RD.out.drewN (n2 + N1 + N2)).set1 (j + 1)
            refine (string_calls w.heap.size w.heap.size acc _ bd1 mv1.size).mono ?_
            rintro e w5 ⟨rfl, _, k2, _⟩
            have rd2 := rd1.belowB k2 hbl
            have mv2 := mv1.belowB k2
            have RD2 := Lib.hid rd2; have MV2 := Lib.hid mv2
            clear rd1 rd2 mv1 mv2 bd1 k2
            go_wp2
            go_ret
            exact Gives.ok HRF.out MV2.out ⟨rfl, RD2.out⟩
          · rw [if_neg h34] at HR3
            have i34 : ((s[j].toNat : Int) == 34) = false := by
              rw [beq_eq_false_iff_ne]; intro e; exact h34 (UInt8.toNat_inj.1 (by simp; omega))
            clear h34
            by_cases h92 : s[j] = 92
            · rw [if_pos h92] at HR3
              have i92 : ((s[j].toNat : Int) == 92) = true := by rw [h92]; rfl
              clear h92
              have HRF := Lib.hid HR3; clear HR3
              go_wp2_with fail
              go_quiet (fail)
              obtain ⟨N1, rfl⟩ : ∃ N1, N1 = nq := ⟨nq, rfl⟩
              go_wp2_with fail
              go_quiet (fail)
              obtain ⟨N2, rfl⟩ : ∃ N2, N2 = nq := ⟨nq, rfl⟩
              go_wp2_with fail
              refine (escape_calls s j m b _ (RD.out.drewN _) (GL.out.drewN _) hb8 hjs hs).mono ?_
              intro e w5 hgv
              cases hes : Cx.escape s.data.toList j with
              | error x =>
                obtain ⟨rfl, k2⟩ := hgv.of_err hes
                have hr := HRF.out
                rw [hes] at hr
                exact ⟨rfl, Gives.err hr ((MV.out.drewN (n2 + N1 + N2)).trans k2)⟩
              | ok a =>
                obtain ⟨bts, j'⟩ := a
                obtain ⟨⟨rfl, k1⟩, k2⟩ := hgv.of_ok hes
                have hr := HRF.out
                rw [hes] at hr
                have hsh := escape_short hes
                have hok := Cx.escape_ok hes
                have hjl : j' ≤ s.size := hok.2.1
                have hjj : j < j' := hok.1
                have bd1 := (BD.out.drewN (n2 + N1 + N2)).kept k2 hbl
                have mv1 := (MV.out.drewN (n2 + N1 + N2)).trans k2
                have gl1 := (GL.out.drewN (n2 + N1 + N2)).mv k2 hb8
                have HRR := Lib.hid hr; have K1 := Lib.hid k1; have BD1 := Lib.hid bd1; have MV1 := Lib.hid mv1; have GL1 := Lib.hid gl1
                clear hr hes hok k1 k2 bd1 mv1 gl1 hgv HRF
                go_wp2_with fail
                refine (writeString_calls w.heap.size w.heap.size acc ⟨bts.toArray⟩ _ BD1.out (by have : (⟨bts.toArray⟩ : ByteArray).size = bts.length := by simp [ByteArray.size]
                                                                                                  omega) MV1.out.size).mono ?_
                rintro e w6 ⟨⟨v6, rfl⟩, k3, k4, _⟩
                have rd2 := K1.out.belowB k4 hbl
                have mv2 := MV1.out.belowB k4
                have gl2 := GL1.out.belowB k4 (by omega)
                have K3 := Lib.hid k3; have RD2 := Lib.hid rd2; have MV2 := Lib.hid mv2; have GL2 := Lib.hid gl2
                clear k3 k4 rd2 mv2 gl2
                go_wp2
                go_roundg q
                case measure => omega
                case rel =>
                  exact ⟨j', acc ++ bts, by omega, by omega, hjl, by simp; omega, HRR.out, RD2.out, GL2.out, K3.out, MV2.out⟩
            · rw [if_neg h92] at HR3
              have i92 : ((s[j].toNat : Int) == 92) = false := by
                rw [beq_eq_false_iff_ne]; intro e; exact h92 (UInt8.toNat_inj.1 (by simp; omega))
              clear h92
              have hdl : (s.extract j s.size).data.toList = s.data.toList.drop j := by
                rw [extract_list]; simp only; rw [List.take_of_length_le (by simp)]
              have hds : (s.extract j s.size).size ≠ 0 := by
                rw [Lib.size_eq, hdl]; simp; omega
              by_cases hz : Cx.runeLen (s.data.toList.drop j) = 0
              · rw [if_pos hz] at HR3
                have HRF := Lib.hid HR3; clear HR3
                have HZ : Hid (Cx.runeLen (s.extract j s.size).data.toList = 0) := by rw [hdl]; exact hz
                have HDS := Lib.hid hds; clear hz hdl hds
                go_wp2_with fail
                go_quiet (fail)
                obtain ⟨N1, rfl⟩ : ∃ N1, N1 = nq := ⟨nq, rfl⟩
                go_wp2_with fail
                go_quiet (fail)
                obtain ⟨N2, rfl⟩ : ∃ N2, N2 = nq := ⟨nq, rfl⟩
                go_wp2_with fail
                go_region_held3 (fun w' => w'.cell? ⟨b, 0, none⟩ = some (.string s) ∧ w'.cell? ⟨b, 1, none⟩ = some (.int .i64 j)) (first | exact ⟨c0, c1⟩ | exact ⟨(hb7.cell RD.out.lt).trans c0, (hb7.cell RD.out.lt).trans c1⟩ | go_keep)
                  (first | (go_at_call 82; refine (rune_bad _ _ (GL.out.drewN _) HDS.out HZ.out).mono ?_; rintro e w7 ⟨rfl, hb7⟩))
                have mv7 := (MV.out.drewN (n2 + N1 + N2 + 1)).below hb7
                have MV7 := Lib.hid mv7
                have d1 : w7.cell? ⟨b, 1, none⟩ = some (.int .i64 j) := (hb7.cell RD.out.lt).trans c1
                clear mv7 hb7 c0 c1 hf
                go_wp2_with (go_at_call 26; refine (give_calls _ _ _ _).mono ?_; rintro e w' ⟨rfl, rfl⟩)
                exact ⟨rfl, Gives.err HRF.out MV7.out⟩
              · rw [if_neg hz] at HR3
                have hle4 := Cx.runeLen_le (s.data.toList.drop j)
                have HZ : Hid (Cx.runeLen (s.extract j s.size).data.toList ≠ 0) := by rw [hdl]; exact hz
                obtain ⟨rl, hrl⟩ : ∃ rl, rl = Cx.runeLen (s.extract j s.size).data.toList := ⟨_, rfl⟩
                have hrl2 : Cx.runeLen (s.data.toList.drop j) = rl := by rw [hrl, hdl]
                rw [hrl2] at HR3 hle4 hz
                have hrl0 : 0 < rl := by omega
                have hrl4 : rl ≤ 4 := hle4.2
                have hjr : j + rl ≤ s.size := by
                  have := hle4.1; rw [List.length_drop] at this; simp at this; omega
                have HRF := Lib.hid HR3; have HRL := Lib.hid hrl
                clear HR3 hdl hds hrl hrl2 hle4 hz
                go_wp2_with fail
                go_quiet (fail)
                obtain ⟨N1, rfl⟩ : ∃ N1, N1 = nq := ⟨nq, rfl⟩
                go_wp2_with fail
                go_quiet (fail)
                obtain ⟨N2, rfl⟩ : ∃ N2, N2 = nq := ⟨nq, rfl⟩
                go_wp2_with fail
                have hrg := rune_good (s.extract j s.size)
                rw [← HRL.out] at hrg
                have HRG := Lib.hid hrg; clear hrg
                go_region_held3 (fun w' => w'.cell? ⟨b, 0, none⟩ = some (.string s) ∧ w'.cell? ⟨b, 1, none⟩ = some (.int .i64 j)) (first | exact ⟨c0, c1⟩ | exact ⟨(hb7.cell RD.out.lt).trans c0, (hb7.cell RD.out.lt).trans c1⟩ | go_keep)
                  (first | (go_at_call 82; refine (HRG.out _ (GL.out.drewN _) (by rw [HRL.out]; exact HZ.out)).mono ?_; rintro e w7 ⟨⟨v, hv0, rfl⟩, hb7⟩))
                have mv7 := (MV.out.drewN (n2 + N1 + N2 + 1)).below hb7
                have rd7 := (RD.out.drewN (n2 + N1 + N2 + 1)).below hb7
                have gl7 := (GL.out.drewN (n2 + N1 + N2 + 1)).below hb7
                have bd7 := (BD.out.drewN (n2 + N1 + N2 + 1)).kept ((Mv.refl b _).below hb7) hbl
                have d0 := rd7.c0; have d1 := rd7.c1; have df := rd7.fr 1
                have MV7 := Lib.hid mv7; have RD7 := Lib.hid rd7; have GL7 := Lib.hid gl7; have BD7 := Lib.hid bd7
                clear mv7 rd7 gl7 bd7 hb7 c0 c1 hf HRG
                go_wp2_with fail
                have hsz : (s.extract j (j + rl)).size ≤ 100000 := by rw [Lib.size_eq, extract_list]; simp; omega
                have e1 : IntKind.i64.wrap ((j : Int) + rl) = (j : Int) + rl := IntWalk.i64_in _ (by omega)
                have e2 : (0 : Int) ≤ (j : Int) + rl := by omega
                have e4 : (j : Int) + rl ≤ (s.size : Int) := by omega
                have e5 : (j : Int) ≤ (j : Int) + rl := by omega
                have e3 : ((j : Int) + rl).toNat = j + rl := by omega
                go_region_held3 (fun w' => w'.cell? ⟨b, 0, none⟩ = some (.string s) ∧ w'.cell? ⟨b, 1, none⟩ = some (.int .i64 j)) (first | exact ⟨d0, d1⟩ | exact ⟨(k4.cell hbl).trans d0, (k4.cell hbl).trans d1⟩ | go_keep)
                  (first | (go_at_call 47; refine (writeString_calls w.heap.size w.heap.size acc _ _ (BD7.out.drewN _) (by omega) ?_).mono ?_; (exact MV7.out.size); rintro e w8 ⟨⟨v6, rfl⟩, k3, k4, _⟩))
                have mv8 := (MV7.out.drewN 1).belowB k4
                have rd8 := (RD7.out.drewN 1).belowB k4 hbl
                have gl8 := (GL7.out.drewN 1).belowB k4 (by omega)
                have p1 := rd8.c1; have pf := rd8.fr 1
                have MV8 := Lib.hid mv8; have RD8 := Lib.hid rd8; have GL8 := Lib.hid gl8; have BD8 := Lib.hid k3
                clear mv8 rd8 gl8 k3 k4 d0 d1 df e1 e2 e3 e4 e5
                go_wp2
                go_roundg q
                case measure => omega
                case rel =>
                  have hx : (s.extract j (j + rl)).data.toList = (s.data.toList.drop j).take rl := by
                    rw [extract_list, show j + rl - j = rl by omega]
                  have hb9 := BD8.out.kept ((Mv.refl b _).set (a := ⟨b, 1, none⟩) (.inl rfl) (.int .i64 ((j : Int) + rl))) hbl
                  rw [hx] at hb9
                  have hr9 := RD8.out.set1 ((j : Int) + rl)
                  rw [show (j : Int) + rl = ((j + rl : Nat) : Int) by omega] at hb9 hr9 ⊢
                  refine ⟨j + rl, _, by omega, by omega, hjr, ?_, HRF.out, hr9, GL8.out.set hb8 _, hb9, MV8.out.set (.inl rfl) _⟩
                  have := List.length_take_le rl (s.data.toList.drop j)
                  rw [List.length_append]; omega
      · have hjz : j = s.size := by omega
        have hpk : Cx.peek s.data.toList j = 0 := Cx.peek_end (s := s.data.toList) hjs
        rw [hpk]
        have HR3 := HR.out
        rw [hpk, if_pos (by decide)] at HR3
        have HRF := Lib.hid HR3
        have dlt : decide (j < s.size) = false := by simp; omega
        subst hjz
        have deq : ((s.size : Int) == (s.size : Int)) = true := by simp
        clear HR3 hpk HR hjs
        go_wp2_with fail
        go_quiet (fail)
        go_wp2_with fail
        go_quiet (fail)
        go_wp2_with (go_at_call 26; refine (give_calls _ _ _ _).mono ?_; rintro e w' ⟨rfl, rfl⟩)
        exact ⟨rfl, Gives.err HRF.out (MV.out.drewN _)⟩
  · have hres : Cx.text s.data.toList i = .error (7, i) := by unfold Cx.text; rw [if_neg hq]
    have HRES := Lib.hid hres
    have ha : Rd b s i m (w.alloc (.cells #[.pointer none, .slice none 0 0] 63)) := h.alloc _
    have hma : Mv b w (w.alloc (.cells #[.pointer none, .slice none 0 0] 63)) := (Mv.refl b w).alloc _
    have HA := Lib.hid ha; have HM := Lib.hid hma
    have HQ := Lib.hid hq
    clear h hg hq hres ha hma
    go_enter Tryz.func50, Tryz.ntmps50
    go_wp2_with fail
    refine (take_bad s i m b 34 _ HA.out HQ.out hle hs').mono ?_
    rintro e w1 ⟨rfl, h1⟩
    exact ⟨rfl, Gives.err HRES.out (HM.out.trans h1)⟩
end Go.Proofs.YtbdmepilmoomeaaGreatDoor
