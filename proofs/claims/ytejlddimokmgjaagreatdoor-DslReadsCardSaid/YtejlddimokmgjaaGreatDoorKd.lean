/- WORLDS: what a call leaves as it was; a reader in memory. No walk. WALKS: the writers of a strings.Builder that the call itself has made, at this program (the shelf's own layings do not fit this cut of copyCheck: so they are walked here, after the shelf's text). THE LIBRARY's CONTRACTS at this program, in the words of the walks. WALKS: strconv.ParseUint at base 16. WALKS: package utf; what the package-level variables must hold for it. WALKS: the small methods of package json's reader. Each contract says what the call returns, or with what it panics, and what became of the reader in memory. WALKS: more of package json's reader: blanks, words, digits. WALKS: more of package json's reader: optional bytes, numbers. -/
import Derived.Test.YtejlddimokmgjaaGreatDoorRows
import Derived.WalkKit
import Derived.WalkSpells
import Derived.WalkLawsBesides
import Derived.StillTactics
import Derived.Deep.QuietTactic
import Derived.BigQuiet
import Derived.Outline
import Derived.Lib.Hide
import Derived.Lib.Bytealg
import Derived.Maps.AppendAt
import Derived.Test.YtejlddimokmgjaaGreatDoorYShelf
import Derived.Shelf.Strings.BuilderK
import Derived.Test.YtejlddimokmgjaaGreatDoorKa
import Derived.Lib.Strings
import Derived.Lib.ConvBytes
import Derived.Lib.AtoiAllMem
import Derived.Laws.Strings3
import Derived.Laws.Closers25
import Derived.Laws.Closers25b
import Derived.BigCall
import Derived.BigGuard
import Derived.Lib.DecodeN
import Derived.Lib.ValidLaws
import Derived.Laws.Cover4
import Derived.Deep.DeepCutAuto
namespace Go.Proofs.YtejlddimokmgjaaGreatDoor
open Go.RowKit

/-- Behind a call all blocks that were there are as they were, but for one. -/
def Mv (b : Nat) (w w' : World) : Prop := w.grownBy w' (some b)
theorem Mv.refl (b : Nat) (w : World) : Mv b w w := ⟨rfl, rfl, rfl, Nat.le_refl _, fun _ _ _ => rfl⟩
theorem Mv.trans {b : Nat} {w w' w'' : World} (h : Mv b w w') (k : Mv b w' w'') : Mv b w w'' :=
  ⟨k.os.trans h.os, k.tape.trans h.tape, k.output.trans h.output, Nat.le_trans h.size k.size, fun i hi hn => (k.block i (Nat.lt_of_lt_of_le hi h.size) hn).trans (h.block i hi hn)⟩
theorem Mv.drewN {b : Nat} {w w' : World} (h : Mv b w w') (n : Nat) : Mv b w (w'.drewN n) := ⟨h.os, h.tape, h.output, h.size, h.block⟩
theorem Mv.drew {b : Nat} {w w' : World} (h : Mv b w w') : Mv b w w'.drew := ⟨h.os, h.tape, h.output, h.size, h.block⟩
theorem Mv.alloc {b : Nat} {w w' : World} (h : Mv b w w') (o : Obj) : Mv b w (w'.alloc o) :=
  h.trans ⟨rfl, rfl, rfl, by simp, fun i hi _ => Below.heap_alloc _ _ _ hi⟩
theorem Mv.set {b : Nat} {w w' : World} (h : Mv b w w') {a : Addr} (ha : a.block = b ∨ w.heap.size ≤ a.block) (u : Value) : Mv b w (w'.setCell a u) :=
  ⟨h.os, h.tape, h.output, by have := h.size; simp [World.setCell]; exact this, fun i hi hn => by
    rw [Below.heap_setCell _ _ _ _ (by rintro rfl; rcases ha with h | h; exact hn (by rw [h]); omega)]; exact h.block i hi hn⟩
theorem Mv.below {b : Nat} {w w' w'' : World} (h : Mv b w w') (k : Below w'.heap.size w' w'') : Mv b w w'' :=
  h.trans ⟨k.os, k.tape, k.output, k.size, fun i hi _ => k.block i hi⟩
/-- A call that moves one block of the caller's own leaves what was there before the caller began. -/
theorem Mv.to_below {b B : Nat} {w w' w'' : World} (h : Below B w w') (k : Mv b w' w'') (hb : B ≤ b) (hB : B ≤ w'.heap.size) : Below B w w'' :=
  h.trans ⟨k.os, k.tape, k.output, k.size, fun i hi => k.block i (by omega) (by simp; omega)⟩
theorem Mv.heap {b : Nat} {w w' : World} (h : Mv b w w') {k : Nat} {o : Obj} (hk : w.heap[k]? = some o) (hn : k ≠ b) : w'.heap[k]? = some o := by
  rw [h.block k ?_ (by simpa using hn)]
  · exact hk
  · rcases Nat.lt_or_ge k w.heap.size with g | g
    · exact g
    · rw [Array.getElem?_eq_none g] at hk; cases hk
theorem Mv.cell {b : Nat} {w w' : World} (h : Mv b w w') {a : Addr} {v : Value} (hk : w.cell? a = some v) (hn : a.block ≠ b) : w'.cell? a = some v :=
  (World.cell?_of_block (h.block a.block (World.block_lt_of_cell? w a hk) (by simpa using hn))).trans hk

/-- A reader that lies at a block: its text, its place, how many values began. -/
def Rd (b : Nat) (s : ByteArray) (i m : Int) (w : World) : Prop := w.heap[b]? = some (.cells #[.string s, .int .i64 i, .int .i64 m] 84 (0, 0))
theorem Rd.c0 {b : Nat} {s : ByteArray} {i m : Int} {w : World} (h : Rd b s i m w) : w.cell? ⟨b, 0, none⟩ = some (.string s) := by
  unfold Rd at h; simp [World.cell?, h]
theorem Rd.c1 {b : Nat} {s : ByteArray} {i m : Int} {w : World} (h : Rd b s i m w) : w.cell? ⟨b, 1, none⟩ = some (.int .i64 i) := by
  unfold Rd at h; simp [World.cell?, h]
theorem Rd.c2 {b : Nat} {s : ByteArray} {i m : Int} {w : World} (h : Rd b s i m w) : w.cell? ⟨b, 2, none⟩ = some (.int .i64 m) := by
  unfold Rd at h; simp [World.cell?, h]
theorem Rd.fr {b : Nat} {s : ByteArray} {i m : Int} {w : World} (h : Rd b s i m w) (o : Nat) : w.frozen? ⟨b, o, none⟩ = false := by
  unfold Rd at h; simp [World.frozen?, h]
theorem Rd.lt {b : Nat} {s : ByteArray} {i m : Int} {w : World} (h : Rd b s i m w) : b < w.heap.size := by
  rcases Nat.lt_or_ge b w.heap.size with g | g
  · exact g
  · unfold Rd at h; rw [Array.getElem?_eq_none g] at h; cases h
theorem Rd.drewN {b : Nat} {s : ByteArray} {i m : Int} {w : World} (h : Rd b s i m w) (n : Nat) : Rd b s i m (w.drewN n) := h
theorem Rd.drew {b : Nat} {s : ByteArray} {i m : Int} {w : World} (h : Rd b s i m w) : Rd b s i m w.drew := h
theorem Rd.alloc {b : Nat} {s : ByteArray} {i m : Int} {w : World} (h : Rd b s i m w) (o : Obj) : Rd b s i m (w.alloc o) := by
  unfold Rd; rw [Below.heap_alloc _ _ _ h.lt]; exact h
theorem Rd.below {b : Nat} {s : ByteArray} {i m : Int} {w w' : World} (h : Rd b s i m w) (k : Below w.heap.size w w') : Rd b s i m w' := by
  unfold Rd; rw [k.block _ h.lt]; exact h
theorem Rd.set1 {b : Nat} {s : ByteArray} {i m : Int} {w : World} (h : Rd b s i m w) (j : Int) : Rd b s j m (w.setCell ⟨b, 1, none⟩ (.int .i64 j)) := by
  have hl := h.lt
  unfold Rd at *; simp [World.setCell, Array.getElem?_modify, h]
theorem Rd.set2 {b : Nat} {s : ByteArray} {i m : Int} {w : World} (h : Rd b s i m w) (j : Int) : Rd b s i j (w.setCell ⟨b, 2, none⟩ (.int .i64 j)) := by
  have hl := h.lt
  unfold Rd at *; simp [World.setCell, Array.getElem?_modify, h]
theorem Rd.mv {b c : Nat} {s : ByteArray} {i m : Int} {w w' : World} (h : Rd b s i m w) (k : Mv c w w') (hn : b ≠ c) : Rd b s i m w' := k.heap h hn

/-- A fault that is panicked with. -/
def fault (e : Int) (p : Int) : List PanicEntry := [{ v := .iface 80 (.agg #[.int .i64 e, .int .i64 p]), recovered := false }]

/-- A part of a text, as a list. -/
theorem extract_list (s : ByteArray) (i j : Nat) : s.extract i j = ⟨((s.data.toList.drop i).take (j - i)).toArray⟩ := by
  apply ByteArray.ext
  rw [ByteArray.data_extract]
  apply Array.toList_inj.1
  simp [List.extract]
theorem ret_int {k : IntKind} {a b : Int} (h : a = b) : Ending.returned (.int k a) = .returned (.int k b) := by rw [h]
theorem ret_str {s t : ByteArray} (h : s = t) : Ending.returned (.string s) = .returned (.string t) := by rw [h]

/-- What a method of the reader comes to: a value, or a fault that is panicked with; what was there but for the reader is as it was. -/
def Gives {α : Type} (r : Except (Nat × Nat) α) (V : α → Ending → World → Prop) (b : Nat) (w : World) (e : Ending) (w' : World) : Prop :=
  Mv b w w' ∧ (∀ a, r = .ok a → V a e w') ∧ ∀ x, r = .error x → e = .panicked (fault (x.1 : Nat) (x.2 : Nat))
theorem Gives.ok {α : Type} {r : Except (Nat × Nat) α} {V : α → Ending → World → Prop} {b : Nat} {w w' : World} {e : Ending} {a : α} (hr : r = .ok a) (hm : Mv b w w') (hv : V a e w') : Gives r V b w e w' :=
  ⟨hm, fun a' h => by rw [hr] at h; injection h with h; subst h; exact hv, fun x h => by rw [hr] at h; cases h⟩
theorem Gives.err {α : Type} {r : Except (Nat × Nat) α} {V : α → Ending → World → Prop} {b : Nat} {w w' : World} {x : Nat × Nat} (hr : r = .error x) (hm : Mv b w w') : Gives r V b w (.panicked (fault x.1 x.2)) w' :=
  ⟨hm, fun a' h => (by rw [hr] at h; cases h), fun y h => by rw [hr] at h; injection h with h; subst h; rfl⟩
theorem Gives.of_ok {α : Type} {r : Except (Nat × Nat) α} {V : α → Ending → World → Prop} {b : Nat} {w w' : World} {e : Ending} {a : α} (h : Gives r V b w e w') (hr : r = .ok a) : V a e w' ∧ Mv b w w' := ⟨h.2.1 a hr, h.1⟩
theorem Gives.of_err {α : Type} {r : Except (Nat × Nat) α} {V : α → Ending → World → Prop} {b : Nat} {w w' : World} {e : Ending} {x : Nat × Nat} (h : Gives r V b w e w') (hr : r = .error x) : e = .panicked (fault x.1 x.2) ∧ Mv b w w' := ⟨h.2.2 x hr, h.1⟩
/-- .. a method that returns nothing, and leaves the reader at a place. -/
def At (b : Nat) (s : ByteArray) (m : Int) (j : Nat) (e : Ending) (w' : World) : Prop := e = .returned (.tuple #[]) ∧ Rd b s j m w'
/-- .. that returns a text. -/
def TextAt (b : Nat) (s : ByteArray) (m : Int) (a : List UInt8 × Nat) (e : Ending) (w' : World) : Prop := e = .returned (.string ⟨a.1.toArray⟩) ∧ Rd b s a.2 m w'

/-- Where a byte stands first in a list: the library's word, under a name that a walk does not open. -/
def ix (l : List UInt8) (c : UInt8) : Int := Lib.indexByte l c
theorem ix_neg {l : List UInt8} {c : UInt8} (h : c ∉ l) : ix l c = -1 := by
  unfold ix
  induction l with
  | nil => rfl
  | cons a l ih =>
    simp only [List.mem_cons, not_or] at h
    have := ih h.2
    simp only [Lib.indexByte]
    rw [if_neg (by simpa using Ne.symm h.1), this]; rfl
theorem ix_pos {l : List UInt8} {c : UInt8} (h : c ∈ l) : 0 ≤ ix l c ∧ ix l c < l.length ∧ l[(ix l c).toNat]? = some c := by
  unfold ix
  induction l with
  | nil => cases h
  | cons a l ih =>
    simp only [Lib.indexByte]
    by_cases hc : a = c
    · rw [if_pos (by simpa using hc)]; simp [hc]
    · rw [if_neg (by simpa using hc)]
      have := ih ((List.mem_cons.1 h).resolve_left (Ne.symm hc))
      rw [if_neg (by simp; omega)]
      refine ⟨by omega, by simp; omega, ?_⟩
      rw [show (Lib.indexByte l c + 1).toNat = (Lib.indexByte l c).toNat + 1 by omega]
      simpa using this.2.2
end Go.Proofs.YtejlddimokmgjaaGreatDoor
namespace Go.Proofs.YtejlddimokmgjaaGreatDoor
open Go.RowKit

theorem infoBld : (Tryz.prog.info? 93).map (·.size) = some 2 := by kernel_rfl
theorem infoByte : (Tryz.prog.info? 5).map (fun i => (i.zero, i.size, i.bytes)) = some (some (.int .u8 0), 1, 1) := by kernel_rfl

set_option maxRecDepth 100000 in
theorem copyCheck_used (b : Nat) (w : World) (h0 : w.cell? ⟨b, 0, none⟩ = some (.pointer (some ⟨b, 0, none⟩))) :
    Calls Tryz.prog 90 #[.pointer (some ⟨b, 0, none⟩)] w fun e w' => e = .returned (.tuple #[]) ∧ w' = w := by
  obtain ⟨j, hj, _⟩ := Option.map_eq_some_iff.1 infoBld
  go_enter Tryz.func90, Tryz.ntmps90
  go_wp2
  rw [Lib.run_neq_ptr_same w _ Tryz.underlying90 hj]
  go_wp2
  go_end0
  exact ⟨rfl, rfl⟩

set_option maxRecDepth 100000 in
theorem copyCheck_fresh (b : Nat) (w : World) (h0 : w.cell? ⟨b, 0, none⟩ = some (.pointer none)) (hsh : w.shape? b = some (93, 2)) (hfz : w.frozen? ⟨b, 0, none⟩ = false) :
    Calls Tryz.prog 90 #[.pointer (some ⟨b, 0, none⟩)] w fun e w' => e = .returned (.tuple #[]) ∧ w' = w.setCell ⟨b, 0, none⟩ (.pointer (some ⟨b, 0, none⟩)) := by
  obtain ⟨j, hj, hjs⟩ := Option.map_eq_some_iff.1 infoBld
  go_enter Tryz.func90, Tryz.ntmps90
  go_wp2
  rw [Lib.run_to_unsafe w ⟨b, 0, none⟩ Tryz.underlying90 Tryz.underlying153 hj (by rw [hjs]; decide) hsh (Nat.zero_lt_succ 1)]
  simp only [Result.andThen]
  rw [Oper.upon_value]
  go_wp2
  rw [run_callFunc_extern Tryz.func138 (by kernel_rfl) (by kernel_rfl) (by kernel_rfl) (e := Extern.AbiNoEscape.same) (by kernel_rfl)]
  rw [Lib.run_noEscape]
  simp only [Result.andThen]
  rw [Oper.upon_value]
  go_wp2
  rw [Lib.run_from_unsafe w ⟨b, 0, none⟩ Tryz.underlying153 Tryz.underlying90 hj hsh (by kernel_rfl)]
  simp only [Result.andThen]
  rw [Oper.upon_value]
  go_wp2
  go_end0
  exact ⟨rfl, rfl⟩

theorem copyCheck_k (B b : Nat) (bs : List Value) (w : World) (h : Lib.IsBuilderF 93 5 B b bs w) :
    Calls Tryz.prog 90 #[.pointer (some ⟨b, 0, none⟩)] w fun e w' => e = .returned (.tuple #[]) ∧ (Lib.BuilderAtF 93 5 B b (.pointer (some ⟨b, 0, none⟩)) bs w' ∧ Below B w w' ∧ Lib.OthersKept 5 (some b) w w') := by
  rcases h with h | h
  · refine (copyCheck_fresh b w h.cell0 h.shape h.frozen0).mono ?_
    rintro e w' ⟨rfl, rfl⟩
    exact ⟨rfl, h.used _, (Below.refl B w).setCell (p := ⟨b, 0, none⟩) h.1 _, (Lib.OthersKept.refl _ _ w).setCell ⟨b, 0, none⟩ rfl _⟩
  · refine (copyCheck_used b w h.cell0).mono ?_
    rintro e w' ⟨rfl, rfl⟩
    exact ⟨rfl, h, Below.refl B _, Lib.OthersKept.refl _ _ _⟩

theorem writeString_k (B b : Nat) (bs : List Value) (s : ByteArray) (w : World) (h : Lib.IsBuilderF 93 5 B b bs w) (hlen : bs.length + s.size ≤ 140737488355328) (hBw : B ≤ w.heap.size) :
    Calls Tryz.prog 52 #[.pointer (some ⟨b, 0, none⟩), .string s] w fun e w' => e = .returned (.tuple #[.int .i64 s.size, .nilIface]) ∧ (Lib.BuilderAtF 93 5 B b (.pointer (some ⟨b, 0, none⟩)) (bs ++ Lib.strCells s) w' ∧ Below B w w' ∧ Lib.OthersKept 5 (some b) w w') := by
  obtain ⟨i0, hi, hz0, hz1, hz2⟩ := info_parts infoByte
  go_enter Tryz.func52, Tryz.ntmps52
  go_wp2_with (go_at_call 90; refine (copyCheck_k B b bs _ h).mono ?_)
  rintro e w1 ⟨rfl, h1, hb1, hk1⟩
  obtain ⟨hB, v, hbk, hown, hne⟩ := h1
  have c0 : w1.cell? ⟨b, 0, none⟩ = some (.pointer (some ⟨b, 0, none⟩)) := by rw [Lib.cell_of_heap hbk]; rfl
  have c1 : w1.cell? ⟨b, 1, none⟩ = some v := by rw [Lib.cell_of_heap hbk]; rfl
  go_wp2_with (at_builtin; refine Lib.wpList_append_own_stringF _ rfl _ _ 91 9 rfl B 5 i0 Tryz.underlying91 Tryz.underlying9 hi hz0 hz1 hz2 _ _ _ rfl hown s rfl ?c3 ?c4 ?c5 ?_)
  case c3 => unfold maxLen; omega
  case c4 => omega
  case c5 => have := hb1.size; omega
  intro v' w2 hown' hgrow _
  have hlt : b < w1.heap.size := by
    rcases Nat.lt_or_ge b w1.heap.size with h' | h'
    · exact h'
    · simp [Array.getElem?_eq_none h'] at hbk
  have hb2 : w2.heap[b]? = some (.cells #[.pointer (some ⟨b, 0, none⟩), v] 93 (0, 0)) := by
    rw [hgrow.block b hlt (fun e => hne e.symm)]
    exact hbk
  have d0 : w2.cell? ⟨b, 0, none⟩ = some (.pointer (some ⟨b, 0, none⟩)) := by rw [Lib.cell_of_heap hb2]; rfl
  have d1 : w2.cell? ⟨b, 1, none⟩ = some v := by rw [Lib.cell_of_heap hb2]; rfl
  have f1 : w2.frozen? ⟨b, 1, none⟩ = false := Lib.frozen_of_heap hb2 1
  obtain ⟨ao, n', cap, rfl⟩ : ∃ ao n' cap, v' = .slice ao n' cap := by
    rcases hown'.2 with ⟨hv, _⟩ | ⟨g, cap, cur, fz, hv, _⟩
    · exact ⟨_, _, _, hv⟩
    · exact ⟨_, _, _, hv⟩
  go_wp2
  go_ret2
  refine ⟨rfl, ?_, ?_, (hk1.grown hgrow (Lib.ownsRowF_kind hown)).setCell ⟨b, 1, none⟩ rfl _⟩
  · exact Lib.BuilderAtF.put (T := 93) (e := 5) hB hb2 (bs' := bs ++ Lib.strCells s) (by simpa [Lib.strCells_length] using hown') (by decide)
  · exact (hb1.grown hgrow (by have := hb1.size; omega) (fun k hk => (hown.lt k hk).1)).setCell (p := ⟨b, 1, none⟩) hB _
end Go.Proofs.YtejlddimokmgjaaGreatDoor
namespace Go.Proofs.YtejlddimokmgjaaGreatDoor
open Go.RowKit

theorem indexByte_calls (s : ByteArray) (c : UInt8) (w : World) :
    Calls Tryz.prog 84 #[.string s, .int .u8 c.toNat] w fun e w' => e = .returned (.int .i64 (ix s.data.toList c)) ∧ w' = w := by
  have h := Tryz.strings_IndexByte s c.toNat w
  simpa [ix] using h
end Go.Proofs.YtejlddimokmgjaaGreatDoor
namespace Go.Proofs.YtejlddimokmgjaaGreatDoor
open Go.RowKit

/-- A byte with the bit of small letters, under a name that a walk does not open. -/
def lowv (c : Int) : Int := bits .or .u8 c 32
theorem lowv_95 : lowv 95 = 127 := by decide +kernel
set_option maxRecDepth 100000 in
theorem lowv_all : ∀ k : Fin 256, 0 ≤ bits .or .u8 k.val 32 ∧ bits .or .u8 k.val 32 ≤ 255 ∧
    ((48 ≤ k.val ∧ k.val ≤ 57) ∨ (97 ≤ bits .or .u8 k.val 32 ∧ bits .or .u8 k.val 32 ≤ 102 ∧ Cx.hexv (UInt8.ofNat k.val) = some (bits .or .u8 k.val 32 - 87).toNat) ∨ ((bits .or .u8 k.val 32 < 97 ∨ 102 < bits .or .u8 k.val 32) ∧ Cx.hexv (UInt8.ofNat k.val) = none)) := by decide +kernel
theorem lowv_cases (c : UInt8) : 0 ≤ lowv c.toNat ∧ lowv c.toNat ≤ 255 ∧
    ((48 ≤ c.toNat ∧ c.toNat ≤ 57) ∨ (97 ≤ lowv c.toNat ∧ lowv c.toNat ≤ 102 ∧ Cx.hexv c = some (lowv c.toNat - 87).toNat) ∨ ((lowv c.toNat < 97 ∨ 102 < lowv c.toNat) ∧ Cx.hexv c = none)) := by
  have := lowv_all ⟨c.toNat, c.toNat_lt⟩
  simpa [lowv] using this
theorem lower_calls (c : Int) (w : World) : Calls Tryz.prog 194 #[.int .u8 c] w fun e w' => e = .returned (.int .u8 (lowv c)) ∧ w' = w := Tryz.internal_strconv_lower _ _

/-- What digits of base 16 say, if no number on the way is above the greatest. -/
def hexU (most : Nat) : List UInt8 → Nat → Option Nat
  | [], n => some n
  | c :: l, n => match Cx.hexv c with
    | none => none
    | some d => if most < n * 16 + d then none else hexU most l (n * 16 + d)

/-- .. what the call comes to: the number and no error, or an error. -/
def PuInner (r : Option Nat) (e : Ending) : Prop := (∀ n, r = some n → e = .returned (.tuple #[.int .u64 n, .nilIface])) ∧ (r = none → ∃ (x : Int) (k : Int), (k = 1 ∨ k = 2) ∧ e = .returned (.tuple #[.int .u64 x, .iface 159 (.int .i64 k)]))
theorem PuInner.some {n : Nat} {e : Ending} (h : e = .returned (.tuple #[.int .u64 n, .nilIface])) : PuInner (some n) e := ⟨fun m hm => by injection hm with hm; subst hm; exact h, fun h => by cases h⟩
theorem PuInner.none {x k : Int} {e : Ending} (hk : k = 1 ∨ k = 2) (h : e = .returned (.tuple #[.int .u64 x, .iface 159 (.int .i64 k)])) : PuInner none e := ⟨fun m hm => (by cases hm), fun _ => ⟨x, k, hk, h⟩⟩

set_option maxHeartbeats 4000000 in
set_option maxRecDepth 100000 in
theorem parseUint_inner (t : ByteArray) (hne : t.size ≠ 0) (hmax : t.size ≤ 9223372036854775806) (w : World) :
    Calls Tryz.prog 176 #[.string t, .int .i64 16, .int .i64 16] w fun e w' => PuInner (hexU 65535 t.data.toList 0) e ∧ w' = Lib.bytesWorld w 5 t := by
  have hemp : t.toList.isEmpty = false := by
    rw [← decide_eq_emptyBytes]
    exact decide_eq_false (fun h => hne (by rw [h]; rfl))
  have hcv := Lib.run_convert_string_bytes (P := Tryz.prog) w 9 91 5 t (u := .string) Tryz.underlying9 Tryz.underlying91 Tryz.underlying5
  have hB : ∀ j, j < t.size → (Lib.bytesWorld w 5 t).cell? ⟨w.heap.size, j, none⟩ = some (.int .u8 (t.data.toList.getD j 0).toNat) := fun j hj => Lib.bytesWorld_cell w 5 t j hj
  obtain ⟨W1, hW1⟩ : ∃ W1, W1 = Lib.bytesWorld w 5 t := ⟨_, rfl⟩
  rw [← hW1] at hcv hB ⊢
  clear hW1
  obtain ⟨bs, hL⟩ : ∃ bs, bs = t.data.toList := ⟨_, rfl⟩
  have hLn : bs.length = t.size := by rw [hL, Lib.size_eq]
  rw [← hL] at hB ⊢
  clear hL
  obtain ⟨RES, hRES⟩ : ∃ RES, RES = hexU 65535 bs 0 := ⟨_, rfl⟩
  rw [← hRES]
  have HRES := Lib.hid hRES; clear hRES
  go_enter Tryz.func176, Tryz.ntmps176
  go_wp2
  go_loop [12, 13, 101] (fun vu vn vi => ∃ (k : Nat) (acc : Int), vu = .bool false ∧ vn = .int .u64 acc ∧ vi = .int .i64 k ∧ k ≤ t.size ∧ 0 ≤ acc ∧ acc ≤ 65535 ∧ Hid (RES = hexU 65535 (bs.drop k) acc.toNat))
    (fun _ _ vi => t.size - (intOf vi).toNat)
  case atStart => exact ⟨0, 0, rfl, rfl, rfl, by omega, by omega, by omega, HRES.out⟩
  case round =>
    obtain ⟨k, a, rfl, rfl, rfl, hk, a0, a1, hdec⟩ := hrel
    by_cases hkn : k < t.size
    · have hc := hB k hkn
      have hdrop : bs.drop k = bs[k]'(by omega) :: bs.drop (k + 1) := List.drop_eq_getElem_cons (by omega)
      have hget : bs.getD k 0 = bs[k]'(by omega) := by simp [List.getD, List.getElem?_eq_getElem (show k < bs.length by omega)]
      have hdec := hdec.out
      rw [hdrop] at hdec
      rw [hget] at hc
      generalize bs[k]'(by omega) = c at hc hdec
      have hc256 : c.toNat < 256 := c.toNat_lt
      have hcut : a < 1152921504606846976 := by omega
      clear hB hdrop hget
      obtain ⟨l0, l1, hcases⟩ := lowv_cases c
      by_cases hdig : 48 ≤ c.toNat ∧ c.toNat ≤ 57
      · obtain ⟨hd0, hd1⟩ := hdig
        have hx : Cx.hexv c = some (c.toNat - 48) := by unfold Cx.hexv; rw [if_pos ⟨hd0, hd1⟩]
        clear hcases
        by_cases hov : 65535 < a.toNat * 16 + (c.toNat - 48)
        · have hF : RES = none := by rw [hdec]; simp only [hexU, hx]; rw [if_pos hov]
          have iov : 65535 < a * 16 + ((c.toNat : Int) - 48) := by omega
          have HF := Lib.hid hF
          clear hF hdec hov hx
          go_wp2_with fail
          go_ret2
          rw [HF.out]
          exact ⟨PuInner.none (.inl rfl) rfl, rfl⟩
        · have hF : RES = hexU 65535 (bs.drop (k + 1)) (a.toNat * 16 + (c.toNat - 48)) := by rw [hdec]; simp only [hexU, hx]; rw [if_neg hov]
          have HF := Lib.hid hF
          have iov : a * 16 + ((c.toNat : Int) - 48) ≤ 65535 := by omega
          clear hF hdec hov hx
          go_wp2_with fail
          refine ⟨⟨k + 1, a * 16 + ((c.toNat : Int) - 48), ?_, ?_, ?_, by omega, by omega, by omega, ?_⟩, ?_⟩
          · rfl
          · rfl
          · go_num
          · rw [show (a * 16 + ((c.toNat : Int) - 48)).toNat = a.toNat * 16 + (c.toNat - 48) by omega]
            exact HF
          · simp [intOf]; omega
      · have hcases := hcases.resolve_left hdig
        have hnd : c.toNat < 48 ∨ 57 < c.toNat := by omega
        clear hdig
        rcases hcases with ⟨e0, e1, hx⟩ | ⟨hlo, hx⟩
        · -- a letter that is a digit
          have h95 : ((c.toNat : Int) == 95) = false := by
            rw [beq_eq_false_iff_ne]; intro h; rw [h, lowv_95] at e1; omega
          by_cases hov : 65535 < a.toNat * 16 + (lowv c.toNat - 87).toNat
          · have hF : RES = none := by rw [hdec]; simp only [hexU, hx]; rw [if_pos hov]
            have iov : 65535 < a * 16 + (lowv c.toNat - 97 + 10) := by omega
            have HF := Lib.hid hF
            clear hF hdec hov hx
            rcases hnd with hnd | hnd
            all_goals
              go_wp2_with (go_at_call 194; refine (lower_calls _ _).mono ?_; rintro e w' ⟨rfl, rfl⟩)
              go_ret2
              rw [HF.out]
              exact ⟨PuInner.none (.inl rfl) rfl, rfl⟩
          · have hF : RES = hexU 65535 (bs.drop (k + 1)) (a.toNat * 16 + (lowv c.toNat - 87).toNat) := by rw [hdec]; simp only [hexU, hx]; rw [if_neg hov]
            have HF := Lib.hid hF
            have iov : a * 16 + (lowv c.toNat - 97 + 10) ≤ 65535 := by omega
            clear hF hdec hov hx
            rcases hnd with hnd | hnd
            all_goals
              go_wp2_with (go_at_call 194; refine (lower_calls _ _).mono ?_; rintro e w' ⟨rfl, rfl⟩)
              refine ⟨⟨k + 1, a * 16 + (lowv c.toNat - 97 + 10), ?_, ?_, ?_, by omega, by omega, by omega, ?_⟩, ?_⟩
              · rfl
              · rfl
              · go_num
              · rw [show (a * 16 + (lowv c.toNat - 97 + 10)).toNat = a.toNat * 16 + (lowv c.toNat - 87).toNat by omega]
                exact HF
              · simp [intOf]; omega
        · have hF : RES = none := by rw [hdec]; simp only [hexU, hx]
          have HF := Lib.hid hF
          clear hF hdec hx
          by_cases h95 : (c.toNat : Int) = 95
          · rw [h95] at hc
            have hl : 102 < lowv 95 := by rw [lowv_95]; decide
            have hl2 : lowv 95 ≤ 255 := by rw [lowv_95]; decide
            clear l0 l1 hnd hlo h95 hc256
            go_wp2_with (go_at_call 194; refine (lower_calls _ _).mono ?_; rintro e w' ⟨rfl, rfl⟩)
            all_goals go_ret2
            all_goals rw [HF.out]
            all_goals exact ⟨PuInner.none (.inr rfl) rfl, rfl⟩
          have h95 : ((c.toNat : Int) == 95) = false := by rw [beq_eq_false_iff_ne]; exact h95
          rcases hnd with hnd | hnd <;> rcases hlo with hlo | hlo
          all_goals
            go_wp2_with (go_at_call 194; refine (lower_calls _ _).mono ?_; rintro e w' ⟨rfl, rfl⟩)
            all_goals go_ret2
            all_goals rw [HF.out]
            all_goals exact ⟨PuInner.none (.inr rfl) rfl, rfl⟩
    · have hkk : k = t.size := by omega
      subst hkk
      have hF : RES = some a.toNat := by rw [hdec.out, List.drop_eq_nil_of_le (by omega)]; rfl
      have HF := Lib.hid hF
      clear hF hdec
      go_wp2
      go_ret2
      rw [HF.out]
      exact ⟨PuInner.some (by rw [Int.toNat_of_nonneg a0]; rfl), rfl⟩
end Go.Proofs.YtejlddimokmgjaaGreatDoor
namespace Go.Proofs.YtejlddimokmgjaaGreatDoor
open Go.RowKit

/-- An error lies in a variable. -/
def ErrAt (g : Nat) (w : World) : Prop := ∃ v, w.cell? ⟨g, 0, none⟩ = some v ∧ (v = .nilIface ∨ ∃ te pe, v = .iface te pe)
/-- What the package-level variables hold. -/
def Glb (w : World) : Prop := Lib.Utf8Tabs 4 5 w ∧ ErrAt 0 w ∧ ErrAt 1 w
theorem ErrAt.same {g : Nat} {w w' : World} (h : ErrAt g w) (hk : ∀ a v, a.block = g → w.cell? a = some v → w'.cell? a = some v) : ErrAt g w' := by
  obtain ⟨v, h1, h2⟩ := h
  exact ⟨v, hk _ v rfl h1, h2⟩
theorem Glb.same {w w' : World} (h : Glb w) (hk : ∀ a v, a.block < 8 → w.cell? a = some v → w'.cell? a = some v) : Glb w' :=
  ⟨⟨fun c hc => hk _ _ (show 4 < 8 by decide) (h.1.1 c hc), fun i hi => ⟨hk _ _ (show 5 < 8 by decide) (h.1.2 i hi).1, hk _ _ (show 5 < 8 by decide) (h.1.2 i hi).2⟩⟩,
   h.2.1.same fun a v ha => hk a v (by rw [ha]; decide), h.2.2.same fun a v ha => hk a v (by rw [ha]; decide)⟩
theorem Glb.mv {b : Nat} {w w' : World} (h : Glb w) (k : Mv b w w') (hb : 8 ≤ b) : Glb w' := h.same fun _ _ ha hc => k.cell hc (by omega)
theorem Glb.below {w w' : World} (h : Glb w) (k : Below w.heap.size w w') : Glb w' := h.same fun a _ _ hc => (k.cell (World.block_lt_of_cell? w a hc)).trans hc
theorem Glb.drewN {w : World} (h : Glb w) (n : Nat) : Glb (w.drewN n) := h
theorem Glb.alloc {w : World} (h : Glb w) (o : Obj) : Glb (w.alloc o) := h.below ((Below.refl _ _).alloc (Nat.le_refl _) _)
theorem Glb.set {w : World} (h : Glb w) {a : Addr} (ha : 8 ≤ a.block) (u : Value) : Glb (w.setCell a u) := h.same fun x v hx hc => by
  rw [World.cell?_of_block (w := w) (Below.heap_setCell w a u x.block (by omega))]; exact hc

/-! ### The decoder's answer and the model's length of a rune -/
theorem get_bytes (s : ByteArray) (k : Nat) : (s.get! k) = s.data.toList.getD k 0 := by
  rcases Nat.lt_or_ge k s.size with h | h
  · rw [Utf8W.get!_of_lt s k h]
    simp only [List.getD, List.getElem?_eq_getElem (show k < s.data.toList.length from h)]; rfl
  · simp only [List.getD, List.getElem?_eq_none (show s.data.toList.length ≤ k from h)]
    simp only [ByteArray.get!, Array.getElem!_eq_getD, Array.getD]
    rw [dif_neg (show ¬ k < s.data.size from Nat.not_lt.2 h)]; rfl
theorem cont_div (c : UInt8) : (Cx.cont c = true) ↔ c.toNat / 64 = 2 := by
  simp only [Cx.cont, Bool.and_eq_true, decide_eq_true_eq, UInt8.le_iff_toNat_le]
  simp only [UInt8.reduceToNat]; omega
theorem decode_rune (s : ByteArray) (hne : s.size ≠ 0) :
    (Cx.runeLen s.data.toList = 0 ∧ Lib.decodeGo s = (65533, 1)) ∨ (Cx.runeLen s.data.toList ≠ 0 ∧ (Lib.decodeGo s).2 = Cx.runeLen s.data.toList ∧ ((Lib.decodeGo s).1 = 65533 → 3 ≤ (Lib.decodeGo s).2) ∧ (Lib.decodeGo s).1 < 0x110000) := by
  unfold Lib.decodeGo
  rw [if_neg hne, Lib.decode_at s 0]
  simp only [get_bytes, Nat.sub_zero, Nat.zero_add]
  have hl : s.data.toList.length = s.size := rfl
  cases hs : s.data.toList with
  | nil => rw [hs] at hl; simp at hl; omega
  | cons a l =>
    rw [hs] at hl
    simp only [List.length_cons] at hl
    simp only [List.getD_cons_zero, List.getD_cons_succ]
    have hb : ∀ k, k < 3 → (k + 1 < s.size ∧ (l.getD k 0).toNat / 64 = 2) = (Cx.cont (l.getD k 0) = true) := fun k _ => by
      rw [cont_div]
      refine propext ⟨fun h => h.2, fun h => ⟨?_, h⟩⟩
      have := Cx.cont_len (l := l) (k := k) ((cont_div _).2 h)
      omega
    have h0 := hb 0 (by omega); have h1 := hb 1 (by omega); have h2 := hb 2 (by omega)
    simp only [Nat.zero_add, Nat.reduceAdd] at h0 h1 h2
    unfold Lib.decodeN
    simp only [h0, h1, h2]
    clear hb h0 h1 h2
    have u : ∀ c : UInt8, c.toNat < 256 := fun c => c.toNat_lt
    have ua := u a; have u0 := u (l.getD 0 0); have u1 := u (l.getD 1 0); have u2 := u (l.getD 2 0)
    have lt : (a < 128) = (a.toNat < 128) := by rw [UInt8.lt_iff_toNat_lt]; rfl
    show (Cx.runeLenC a l = 0 ∧ _) ∨ (Cx.runeLenC a l ≠ 0 ∧ _ = Cx.runeLenC a l ∧ _ ∧ _)
    unfold Cx.runeLenC
    simp only [UInt8.lt_iff_toNat_lt, UInt8.le_iff_toNat_le, UInt8.reduceToNat, ← UInt8.toNat_inj]
    generalize l.getD 0 0 = b0 at *
    generalize l.getD 1 0 = b1 at *
    generalize l.getD 2 0 = b2 at *
    have k0 := cont_div b0; have k1 := cont_div b1; have k2 := cont_div b2
    have r0 : Cx.cont b0 = true → 128 ≤ b0.toNat ∧ b0.toNat ≤ 191 := fun h => by have := k0.1 h; omega
    have r1 : Cx.cont b1 = true → 128 ≤ b1.toNat ∧ b1.toNat ≤ 191 := fun h => by have := k1.1 h; omega
    have r2 : Cx.cont b2 = true → 128 ≤ b2.toNat ∧ b2.toNat ≤ 191 := fun h => by have := k2.1 h; omega
    clear k0 k1 k2
    by_cases c0 : Cx.cont b0 = true <;> by_cases c1 : Cx.cont b1 = true <;> by_cases c2 : Cx.cont b2 = true
    all_goals simp only [c0, c1, c2, and_true, true_and, and_false, false_and, if_true, if_false, Bool.false_eq_true]
    all_goals (try have q0 := r0 c0); (try have q1 := r1 c1); (try have q2 := r2 c2)
    all_goals clear r0 r1 r2
    all_goals repeat' split
    all_goals first
      | omega
      | (left; exact ⟨rfl, rfl⟩)
      | (right; refine ⟨by decide, rfl, ?_, ?_⟩ <;> (try intro hh) <;> simp only at * <;> omega)

theorem valid_eq : ∀ (n : Nat) (l : List UInt8), l.length ≤ n → Lib.validD l = Cx.valid l
  | 0, l, h => by
    have : l = [] := List.length_eq_zero_iff.1 (by omega)
    subst this; rfl
  | n + 1, [], _ => rfl
  | n + 1, a :: l, h => by
    have hd : Lib.decodeL (a :: l) = Lib.decodeGo ⟨(a :: l).toArray⟩ := by
      unfold Lib.decodeL Lib.decodeGo; rw [if_neg (by simp [ByteArray.size])]
    rw [Lib.validD_step _ (by simp), Cx.valid_cons (by simp), hd]
    rcases decode_rune ⟨(a :: l).toArray⟩ (by simp [ByteArray.size]) with ⟨h1, h2⟩ | ⟨h1, h2, h3, _⟩
    · have h1 : Cx.runeLen (a :: l) = 0 := h1
      rw [h2, if_pos ⟨rfl, rfl⟩]; simp [h1]
    · have h1 : Cx.runeLen (a :: l) ≠ 0 := h1
      have h2 : (Lib.decodeGo ⟨(a :: l).toArray⟩).2 = Cx.runeLen (a :: l) := h2
      rw [if_neg (fun hh => by have := h3 hh.1; omega), h2]
      have hlen : ((a :: l).drop (Cx.runeLen (a :: l))).length ≤ n := by simp at h ⊢; omega
      rw [valid_eq n _ hlen]; simp [h1]

/-! ### The walks -/
/-- The first rune of a text is none. -/
theorem rune_bad (s : ByteArray) (w : World) (hg : Glb w) (hne : s.size ≠ 0) (h : Cx.runeLen s.data.toList = 0) :
    Calls Tryz.prog 134 #[.string s] w fun e w' => e = .returned (.tuple #[.int .i64 (-1), .int .i64 1]) ∧ Below w.heap.size w w' := by
  have hd : Lib.decodeGo s = (65533, 1) := by
    rcases decode_rune s hne with ⟨_, h2⟩ | ⟨h1, _⟩
    · exact h2
    · exact absurd h h1
  have HG := Lib.hid hg; have HD := Lib.hid hd
  clear hg hd h
  go_enter Tryz.func134, Tryz.ntmps134
  go_wp2_with fail
  refine (Tryz.utf8_DecodeRuneInString s _ HG.out.1).mono ?_
  rintro e w1 ⟨rfl, hb⟩
  rw [HD.out]
  have HB := Lib.hid hb; clear hb
  go_wp2
  go_ret2
  exact ⟨rfl, HB.out⟩
theorem rune_good (s : ByteArray) (w : World) (hg : Glb w) (h : Cx.runeLen s.data.toList ≠ 0) :
    Calls Tryz.prog 134 #[.string s] w fun e w' => (∃ v : Int, 0 ≤ v ∧ e = .returned (.tuple #[.int .i64 v, .int .i64 (Cx.runeLen s.data.toList)])) ∧ Below w.heap.size w w' := by
  have hne : s.size ≠ 0 := fun e => h (by
    have : s.data.toList = [] := List.length_eq_zero_iff.1 e
    rw [this]; rfl)
  obtain ⟨v, n, hd, hn, hv, h3⟩ : ∃ v n : Nat, Lib.decodeGo s = (v, n) ∧ n = Cx.runeLen s.data.toList ∧ v < 0x110000 ∧ (v = 65533 → 3 ≤ n) := by
    rcases decode_rune s hne with ⟨h1, _⟩ | ⟨_, h2, h3, h4⟩
    · exact absurd h1 h
    · exact ⟨_, _, rfl, h2, h4, h3⟩
  have hn4 := (Cx.runeLen_le s.data.toList).2
  have HG := Lib.hid hg; have HD := Lib.hid hd
  clear hg hd h
  rw [← hn] at hn4
  rw [← hn]
  have HN := Lib.hid hn; clear hn hne
  by_cases hv3 : v = 65533
  · have h3 := h3 hv3
    subst hv3
    go_enter Tryz.func134, Tryz.ntmps134
    go_wp2_with fail
    refine (Tryz.utf8_DecodeRuneInString s _ HG.out.1).mono ?_
    rintro e w1 ⟨rfl, hb⟩
    rw [HD.out]
    have HB := Lib.hid hb; clear hb
    go_wp2
    go_ret2
    exact ⟨⟨_, by omega, rfl⟩, HB.out⟩
  · have hv3 : ((v : Int) == 65533) = false := by simp; omega
    clear h3
    go_enter Tryz.func134, Tryz.ntmps134
    go_wp2_with fail
    refine (Tryz.utf8_DecodeRuneInString s _ HG.out.1).mono ?_
    rintro e w1 ⟨rfl, hb⟩
    rw [HD.out]
    have HB := Lib.hid hb; clear hb
    go_wp2
    go_ret2
    exact ⟨⟨_, by omega, rfl⟩, HB.out⟩

theorem valid_calls (s : ByteArray) (w : World) (hg : Glb w) (hs : s.size ≤ maxLen) :
    Calls Tryz.prog 152 #[.string s] w fun e w' => e = .returned (.bool (Cx.valid s.data.toList)) ∧ Below w.heap.size w w' := by
  have hv := valid_eq s.data.toList.length s.data.toList (Nat.le_refl _)
  rw [← hv]
  unfold maxLen at hs
  have HG := Lib.hid hg; clear hg hv
  go_enter Tryz.func152, Tryz.ntmps152
  go_wp2_with fail
  refine (Tryz.utf8_ValidString s _ (by omega) HG.out.1).mono ?_
  rintro e w1 ⟨rfl, hb⟩
  have HB := Lib.hid hb; clear hb
  go_wp2
  go_ret
  exact ⟨rfl, HB.out⟩

theorem runeOf_calls (r : Int) (w : World) (h0 : 0 ≤ r) (h1 : r ≤ 1114111) (hs : r < 55296 ∨ 57343 < r) :
    Calls Tryz.prog 187 #[.int .i64 r] w fun e w' => e = .returned (.int .i32 r) ∧ w = w' := by
  have hv : Lib.validRune r = true := by simp only [Lib.validRune, decide_eq_true_eq]; omega
  have HV := Lib.hid hv; clear hv hs
  go_enter Tryz.func187, Tryz.ntmps187
  go_wp2_with fail
  refine (Tryz.utf8_ValidRune _ _).mono ?_
  rintro e w1 ⟨rfl, rfl⟩
  rw [HV.out]
  go_wp2
  go_ret
  exact ⟨rfl, rfl⟩

theorem enc_encode (r : Nat) (h : r < 0x110000) (hs : ¬ (0xD800 ≤ r ∧ r < 0xE000)) : Utf8.encode r = ⟨(Cx.enc r).toArray⟩ := by
  have hv : Utf8.valid (r : Int) = true := by
    simp only [Utf8.valid, Bool.and_eq_true, Bool.or_eq_true, decide_eq_true_eq]; omega
  unfold Utf8.encode Cx.enc
  rw [hv]
  simp only [if_true, Int.toNat_natCast]
  repeat' split
  all_goals rfl
/-- 'Append' at the empty text. -/
theorem append_calls (r : Int) (w : World) (h0 : 0 ≤ r) (h1 : r ≤ 1114111) (hs : r < 55296 ∨ 57343 < r) :
    Calls Tryz.prog 167 #[.string ⟨#[]⟩, .int .i64 r] w fun e w' => e = .returned (.string ⟨(Cx.enc r.toNat).toArray⟩) ∧ w = w' := by
  have he := enc_encode r.toNat (by omega) (by omega)
  rw [Int.toNat_of_nonneg h0] at he
  rw [← he]
  have HE := Lib.hid he; clear he
  go_enter Tryz.func167, Tryz.ntmps167
  go_wp2_with fail
  refine (runeOf_calls r _ h0 h1 hs).mono ?_
  rintro e w1 ⟨rfl, rfl⟩
  have hsz := encode_size_le r
  go_wp2
  go_ret
  exact ⟨ret_str (by apply ByteArray.ext; simp), rfl⟩
end Go.Proofs.YtejlddimokmgjaaGreatDoor
namespace Go.Proofs.YtejlddimokmgjaaGreatDoor
open Go.RowKit

theorem peek_in (s : ByteArray) (i : Nat) (m : Int) (b : Nat) (w : World) (h : Rd b s i m w) (hi : i < s.size) (_hs : s.size ≤ maxLen) :
    Calls Tryz.prog 89 #[.pointer (some ⟨b, 0, none⟩)] w fun e w' => e = .returned (.int .u8 s[i].toNat) ∧ ∃ n, w' = w.drewN n := by
  have h0 := h.c0; have h1 := h.c1
  unfold maxLen at _hs
  clear h
  go_enter Tryz.func89, Tryz.ntmps89
  go_wp2
  go_quiet (fail)
  go_wp2
  go_quiet (fail)
  go_wp2
  go_ret
  exact ⟨rfl, _, World.drewN_drewN _ _ _⟩
theorem peek_out (s : ByteArray) (i : Nat) (m : Int) (b : Nat) (w : World) (h : Rd b s i m w) (hi : s.size ≤ i) (_hs : s.size ≤ maxLen) :
    Calls Tryz.prog 89 #[.pointer (some ⟨b, 0, none⟩)] w fun e w' => e = .returned (.int .u8 0) ∧ ∃ n, w' = w.drewN n := by
  have h0 := h.c0; have h1 := h.c1
  unfold maxLen at _hs
  clear h
  go_enter Tryz.func89, Tryz.ntmps89
  go_wp2
  go_quiet (fail)
  go_wp2
  go_ret
  exact ⟨rfl, _, rfl⟩
theorem peek_size {s : ByteArray} {i : Nat} (hi : i < s.size) : Cx.peek s.data.toList i = s[i] := by
  simp only [Cx.peek, List.getD, List.getElem?_eq_getElem (show i < s.data.toList.length from hi)]; rfl
theorem peek_calls (s : ByteArray) (i : Nat) (m : Int) (b : Nat) (w : World) (h : Rd b s i m w) (hs : s.size ≤ maxLen) :
    Calls Tryz.prog 89 #[.pointer (some ⟨b, 0, none⟩)] w fun e w' => e = .returned (.int .u8 (Cx.peek s.data.toList i).toNat) ∧ ∃ n, w' = w.drewN n := by
  rcases Nat.lt_or_ge i s.size with hi | hi
  · rw [peek_size hi]; exact peek_in s i m b w h hi hs
  · rw [Cx.peek_end (by simpa using hi)]; exact peek_out s i m b w h hi hs

theorem give_calls (p : Value) (e at' : Int) (w : World) :
    Calls Tryz.prog 49 #[p, .int .i64 e, .int .i64 at'] w fun x w' => x = .panicked (fault e at') ∧ w = w' := by
  go_enter Tryz.func49, Tryz.ntmps49
  go_wp2
  exact ⟨rfl, rfl, rfl⟩

/-- What 'take' does. -/
theorem take_ok (s : ByteArray) (i : Nat) (m : Int) (b : Nat) (w : World) (h : Rd b s i m w) (hi : i < s.size) (hs : s.size ≤ maxLen) :
    Calls Tryz.prog 132 #[.pointer (some ⟨b, 0, none⟩), .int .u8 s[i].toNat] w fun e w' => e = .returned (.tuple #[]) ∧ Rd b s (i + 1) m w' ∧ Mv b w w' := by
  have h0 := h.c0; have h1 := h.c1; have hf := h.fr 1
  unfold maxLen at hs
  have hne : ((i : Int) == (s.size : Int)) = false := by simp; omega
  have H := Lib.hid h; clear h
  go_enter Tryz.func132, Tryz.ntmps132
  go_wp2
  go_quiet (fail)
  go_wp2
  go_end0
  exact ⟨rfl, (H.out.drewN _).set1 _, ((Mv.refl b w).drewN _).set (.inl rfl) _⟩
theorem take_bad (s : ByteArray) (i : Nat) (m : Int) (b : Nat) (c : UInt8) (w : World) (h : Rd b s i m w) (hc : Cx.peek s.data.toList i ≠ c) (hle : i ≤ s.size) (_hs : s.size ≤ maxLen) :
    Calls Tryz.prog 132 #[.pointer (some ⟨b, 0, none⟩), .int .u8 c.toNat] w fun e w' => e = .panicked (fault 7 i) ∧ Mv b w w' := by
  have h0 := h.c0; have h1 := h.c1
  unfold maxLen at _hs
  clear h
  rcases Nat.lt_or_ge i s.size with hi | hi
  · have hne : ((i : Int) == (s.size : Int)) = false := by simp; omega
    have hcc : ((s[i].toNat : Int) != (c.toNat : Int)) = true := by
      rw [peek_size hi] at hc
      rw [bne_iff_ne]
      intro e
      exact hc (UInt8.toNat_inj.1 (by omega))
    clear hc
    go_enter Tryz.func132, Tryz.ntmps132
    go_wp2
    go_quiet (fail)
    go_wp2_with (go_at_call 49; refine (give_calls _ _ _ _).mono ?_; rintro e w' ⟨rfl, rfl⟩)
    exact ⟨rfl, rfl, (Mv.refl b w).drewN _⟩
  · have : i = s.size := by omega
    subst this
    have hne : ((s.size : Int) == (s.size : Int)) = true := by simp
    clear hc
    go_enter Tryz.func132, Tryz.ntmps132
    go_wp2
    go_quiet (fail)
    go_wp2_with (go_at_call 49; refine (give_calls _ _ _ _).mono ?_; rintro e w' ⟨rfl, rfl⟩)
    exact ⟨rfl, rfl, (Mv.refl b w).drewN _⟩
end Go.Proofs.YtejlddimokmgjaaGreatDoor
namespace Go.Proofs.YtejlddimokmgjaaGreatDoor
open Go.RowKit

theorem blank_ix (c : UInt8) : (Cx.isBlank c = true → 0 ≤ ix [32, 9, 10, 13] c) ∧ (Cx.isBlank c = false → ix [32, 9, 10, 13] c = -1) := by
  constructor
  · intro h
    have := Cx.isBlank_ne h
    exact (ix_pos (by simp; omega)).1
  · intro h
    refine ix_neg ?_
    simp only [Cx.isBlank, Bool.or_eq_false_iff, beq_eq_false_iff_ne] at h
    simp [h]

set_option maxHeartbeats 400000 in
theorem blanks_calls (s : ByteArray) (i : Nat) (m : Int) (b : Nat) (w : World) (h : Rd b s i m w) (hle : i ≤ s.size) (hs : s.size ≤ maxLen) :
    Calls Tryz.prog 48 #[.pointer (some ⟨b, 0, none⟩)] w fun e w' =>
      e = .returned (.int .u8 (Cx.peek s.data.toList (Cx.skipB s.data.toList i)).toNat) ∧ Rd b s (Cx.skipB s.data.toList i) m w' ∧ Mv b w w' := by
  have hs' := hs
  unfold maxLen at hs
  have H := Lib.hid h; clear h
  go_enter Tryz.func48, Tryz.ntmps48
  go_wp2
  go_loopg [] (s.size - i) (fun q wr => ∃ k : Nat, q = s.size - k ∧ i ≤ k ∧ k ≤ s.size ∧ Cx.skipB s.data.toList k = Cx.skipB s.data.toList i ∧ Rd b s k m wr ∧ Mv b w wr)
  case atStart => exact ⟨i, rfl, Nat.le_refl _, hle, rfl, H.out, Mv.refl _ _⟩
  case round =>
    obtain ⟨k, hq, hik, hks, hsk, hrd, hmv⟩ := hrel
    have h0 := hrd.c0; have h1 := hrd.c1; have hf := hrd.fr 1
    have HSK := Lib.hid hsk; have HRD := Lib.hid hrd; have HMV := Lib.hid hmv; have HQ := Lib.hid hq
    clear hsk hrd hmv hq
    rcases Nat.lt_or_ge k s.size with hlt | hge
    · by_cases hbl : Cx.isBlank s[k] = true
      · have hix := (blank_ix s[k]).1 hbl
        have HB := Lib.hid hbl; clear hbl
        go_wp2
        go_quiet ((go_at_call 84; exact Calls.quiet_of_same (indexByte_calls _ _ _)))
        go_wp2
        go_roundg (s.size - (k + 1))
        case measure => have := HQ.out; omega
        case rel =>
          have hstep := Cx.skipB_step (s := s.data.toList) (i := k) hlt (by rw [peek_size hlt]; exact HB.out)
          exact ⟨k + 1, rfl, by omega, by omega, by rw [← hstep]; exact HSK.out, (HRD.out.drewN _).set1 _, (HMV.out.drewN _).set (.inl rfl) _⟩
      · have hix : ¬ 0 ≤ ix [32, 9, 10, 13] s[k] := by rw [(blank_ix s[k]).2 (by simpa using hbl)]; omega
        have HB := Lib.hid hbl; clear hbl
        go_wp2
        go_quiet ((go_at_call 84; exact Calls.quiet_of_same (indexByte_calls _ _ _)))
        go_wp2_with (go_at_call 89; refine (peek_calls s k m b _ (HRD.out.drewN _) hs').mono ?_; rintro e w' ⟨rfl, n, rfl⟩)
        go_ret
        have hst : Cx.skipB s.data.toList i = k := by rw [← HSK.out]; exact Cx.skipB_stop (by rw [peek_size hlt]; simpa using HB.out)
        rw [hst]
        exact ⟨rfl, HRD.out.drewN _, HMV.out.drewN _⟩
    · have hd : decide (k < s.size) = false := by simp; omega
      go_wp2
      go_quiet (fail)
      go_wp2_with (go_at_call 89; refine (peek_calls s k m b _ (HRD.out.drewN _) hs').mono ?_; rintro e w' ⟨rfl, n, rfl⟩)
      go_ret
      have hst : Cx.skipB s.data.toList i = k := by rw [← HSK.out]; exact Cx.skipB_stop (by rw [Cx.peek_end hge]; rfl)
      rw [hst]
      exact ⟨rfl, HRD.out.drewN _, HMV.out.drewN _⟩

theorem word_calls (s : ByteArray) (i : Nat) (m : Int) (b : Nat) (W : ByteArray) (w : World) (h : Rd b s i m w) (hle : i ≤ s.size) (hs : s.size ≤ maxLen) (h0 : (0 : UInt8) ∉ W.data.toList) (hW : W.size ≤ maxLen) :
    Calls Tryz.prog 85 #[.pointer (some ⟨b, 0, none⟩), .string W] w (Gives (Cx.word s.data.toList W.data.toList i) (At b s m) b w) := by
  have hs' := hs
  unfold maxLen at hs hW
  have H := Lib.hid h; clear h
  have H0 := Lib.hid h0; clear h0
  go_enter Tryz.func85, Tryz.ntmps85
  go_wp2
  go_loopg [7] W.size (fun q x wr => ∃ k : Nat, x = .int .i64 k ∧ q = W.size - k ∧ k ≤ W.size ∧ i + k ≤ s.size ∧ Cx.word s.data.toList W.data.toList i = Cx.word s.data.toList (W.data.toList.drop k) (i + k) ∧ Rd b s (i + k : Nat) m wr ∧ Mv b w wr)
  case atStart => exact ⟨0, rfl, rfl, Nat.zero_le _, hle, rfl, H.out, Mv.refl _ _⟩
  case round =>
    obtain ⟨k, rfl, hq, hk, hik, hw, hrd, hmv⟩ := hrel
    have HW := Lib.hid hw; have HRD := Lib.hid hrd; have HMV := Lib.hid hmv; have HQ := Lib.hid hq
    clear hw hrd hmv hq
    rcases Nat.lt_or_ge k W.size with hlt | hge
    · have hdr : W.data.toList.drop k = W[k] :: W.data.toList.drop (k + 1) := by rw [List.drop_eq_getElem_cons (show k < W.data.toList.length from hlt)]; rfl
      have hne : W[k] ≠ 0 := fun e => H0.out (by rw [← e]; exact List.getElem_mem (show k < W.data.toList.length from hlt))
      have HD := Lib.hid hdr; have HN := Lib.hid hne; clear hdr hne
      by_cases hc : Cx.peek s.data.toList (i + k) = W[k]
      · have hlt2 : i + k < s.size := Cx.peek_lt (s := s.data.toList) (by rw [hc]; exact HN.out)
        have hc2 : W[k] = s[i + k] := by rw [← hc]; exact peek_size hlt2
        have HC := Lib.hid hc; have HC2 := Lib.hid hc2; clear hc hc2
        go_wp2_with fail
        rw [HC2.out]
        refine (take_ok s (i + k) m b _ HRD.out hlt2 hs').mono ?_
        rintro e w' ⟨rfl, g1, g2⟩
        have G1 := Lib.hid g1; have G2 := Lib.hid g2; clear g1 g2
        go_wp2
        go_roundg (W.size - (k + 1))
        case measure => have := HQ.out; omega
        case rel =>
          refine ⟨k + 1, by go_num, rfl, by omega, by omega, ?_, ?_, HMV.out.trans G2.out⟩
          · rw [HW.out, HD.out]
            conv => lhs; unfold Cx.word
            rw [if_pos HC.out]; rfl
          · have := G1.out; rw [show ((i + (k + 1) : Nat) : Int) = ((i + k : Nat) : Int) + 1 by omega]; exact this
      · have HC := Lib.hid hc; clear hc
        go_wp2_with fail
        refine (take_bad s (i + k) m b W[k] _ HRD.out HC.out hik hs').mono ?_
        rintro e w' ⟨rfl, g2⟩
        have hfin : Cx.word s.data.toList W.data.toList i = .error (7, i + k) := by
          rw [HW.out, HD.out]; unfold Cx.word; rw [if_neg HC.out]
        exact ⟨rfl, Gives.err hfin (HMV.out.trans g2)⟩
    · have hkk : k = W.size := by omega
      subst hkk
      go_wp2
      go_end0
      have hfin : Cx.word s.data.toList W.data.toList i = .ok (i + W.size) := by
        rw [HW.out, List.drop_of_length_le (by simp)]; rfl
      exact Gives.ok hfin HMV.out ⟨rfl, HRD.out⟩

theorem digit_calls (c : UInt8) (w : World) : Calls Tryz.prog 168 #[.int .u8 c.toNat] w fun e w' => e = .returned (.bool (Cx.isDig c)) ∧ w = w' := by
  by_cases h1 : 48 ≤ c.toNat
  · by_cases h2 : c.toNat ≤ 57
    · have hd : Cx.isDig c = true := by
        simp only [Cx.isDig, Bool.and_eq_true, decide_eq_true_eq, UInt8.le_iff_toNat_le]; exact ⟨h1, h2⟩
      rw [hd]
      clear hd
      have hq : decide ((c.toNat : Int) ≤ 57) = true := by simp; omega
      go_enter Tryz.func168, Tryz.ntmps168
      go_wp2
      go_ret
      exact ⟨rfl, rfl⟩
    · have hd : Cx.isDig c = false := by
        simp only [Cx.isDig, Bool.and_eq_false_iff, decide_eq_false_iff_not, UInt8.le_iff_toNat_le]; exact .inr h2
      rw [hd]
      clear hd
      have hq : decide ((c.toNat : Int) ≤ 57) = false := by simp; omega
      go_enter Tryz.func168, Tryz.ntmps168
      go_wp2
      go_ret
      exact ⟨rfl, rfl⟩
  · have hd : Cx.isDig c = false := by
      simp only [Cx.isDig, Bool.and_eq_false_iff, decide_eq_false_iff_not, UInt8.le_iff_toNat_le]; exact .inl h1
    rw [hd]
    clear hd
    go_enter Tryz.func168, Tryz.ntmps168
    go_wp2
    go_ret
    exact ⟨rfl, rfl⟩

theorem digits_calls (s : ByteArray) (i : Nat) (m : Int) (b : Nat) (w : World) (h : Rd b s i m w) (hle : i ≤ s.size) (hs : s.size ≤ maxLen) :
    Calls Tryz.prog 137 #[.pointer (some ⟨b, 0, none⟩)] w (Gives (Cx.digits s.data.toList i) (At b s m) b w) := by
  have hs' := hs
  unfold maxLen at hs
  have h1 := h.c1
  have H := Lib.hid h; clear h
  go_enter Tryz.func137, Tryz.ntmps137
  go_wp2
  clear h1
  go_loopg [] (s.size - i) (fun q wr => ∃ k : Nat, q = s.size - k ∧ i ≤ k ∧ k ≤ s.size ∧ Cx.skipD s.data.toList k = Cx.skipD s.data.toList i ∧ Rd b s k m wr ∧ Mv b w wr)
  case atStart => exact ⟨i, rfl, Nat.le_refl _, hle, rfl, H.out, Mv.refl _ _⟩
  case round =>
    obtain ⟨k, hq, hik, hks, hsk, hrd, hmv⟩ := hrel
    have h1 := hrd.c1; have hf := hrd.fr 1
    have HSK := Lib.hid hsk; have HRD := Lib.hid hrd; have HMV := Lib.hid hmv; have HQ := Lib.hid hq
    clear hsk hrd hmv hq
    by_cases hd : Cx.isDig (Cx.peek s.data.toList k) = true
    · have hlt : k < s.size := Cx.peek_lt (s := s.data.toList) (fun e => by rw [e] at hd; cases hd)
      have HD := Lib.hid hd; clear hd
      go_wp2_with fail
      refine (peek_calls s k m b _ HRD.out hs').mono ?_
      rintro e w' ⟨rfl, n, rfl⟩
      go_wp2_with fail
      refine (digit_calls _ _).mono ?_
      rintro e w' ⟨rfl, rfl⟩
      rw [HD.out]
      go_wp2
      go_roundg (s.size - (k + 1))
      case measure => have := HQ.out; omega
      case rel =>
        have hstep := Cx.skipD_step (s := s.data.toList) (i := k) hlt HD.out
        exact ⟨k + 1, rfl, by omega, by omega, by rw [← hstep]; exact HSK.out, (HRD.out.drewN _).set1 _, (HMV.out.drewN _).set (.inl rfl) _⟩
    · have hd' : Cx.isDig (Cx.peek s.data.toList k) = false := by simpa using hd
      have HD := Lib.hid hd'; clear hd hd'
      have hst : Cx.skipD s.data.toList i = k := by rw [← HSK.out]; exact Cx.skipD_stop HD.out
      have HST := Lib.hid hst; clear hst
      go_wp2_with fail
      refine (peek_calls s k m b _ HRD.out hs').mono ?_
      rintro e w' ⟨rfl, n, rfl⟩
      go_wp2_with fail
      refine (digit_calls _ _).mono ?_
      rintro e w' ⟨rfl, rfl⟩
      rw [HD.out]
      by_cases hki : k = i
      · subst hki
        go_wp2_with (go_at_call 49; refine (give_calls _ _ _ _).mono ?_; rintro e w' ⟨rfl, rfl⟩)
        have hfin : Cx.digits s.data.toList k = .error (7, k) := by unfold Cx.digits; rw [if_pos HST.out]
        exact ⟨rfl, Gives.err hfin (HMV.out.drewN _)⟩
      · have hne : ((k : Int) == (i : Int)) = false := by simp; omega
        go_wp2
        go_end0
        have hfin : Cx.digits s.data.toList i = .ok k := by unfold Cx.digits; rw [HST.out, if_neg hki]
        exact Gives.ok hfin (HMV.out.drewN _) ⟨rfl, HRD.out.drewN _⟩
end Go.Proofs.YtejlddimokmgjaaGreatDoor
namespace Go.Proofs.YtejlddimokmgjaaGreatDoor
open Go.RowKit

theorem skip_yes (s : ByteArray) (i : Nat) (m : Int) (b : Nat) (L : ByteArray) (w : World) (h : Rd b s i m w) (hs : s.size ≤ maxLen) (h0 : (0 : UInt8) ∉ L.data.toList) (hc : Cx.peek s.data.toList i ∈ L.data.toList) :
    Calls Tryz.prog 136 #[.pointer (some ⟨b, 0, none⟩), .string L] w fun e w' => e = .returned (.bool true) ∧ Rd b s (i + 1 : Nat) m w' ∧ Mv b w w' := by
  have hs' := hs
  unfold maxLen at hs
  have hc0 := h.c0; have hc1 := h.c1; have hf := h.fr 1
  have hi : i < s.size := Cx.peek_lt (s := s.data.toList) (fun e => h0 (by rw [← e]; exact hc))
  rw [peek_size hi] at hc
  have hix := (ix_pos hc).1
  have hne : ((i : Int) == (s.size : Int)) = false := by simp; omega
  have H := Lib.hid h; clear h h0 hc
  have hd : decide (ix L.data.toList s[i] < 0) = false := by simp; omega
  go_enter Tryz.func136, Tryz.ntmps136
  go_wp2
  go_quiet ((go_at_call 84; exact Calls.quiet_of_same (indexByte_calls _ _ _)))
  go_wp2
  go_ret
  exact ⟨rfl, (H.out.drewN _).set1 _, ((Mv.refl b w).drewN _).set (.inl rfl) _⟩
theorem skip_no (s : ByteArray) (i : Nat) (m : Int) (b : Nat) (L : ByteArray) (w : World) (h : Rd b s i m w) (hle : i ≤ s.size) (hs : s.size ≤ maxLen) (hc : Cx.peek s.data.toList i ∉ L.data.toList) :
    Calls Tryz.prog 136 #[.pointer (some ⟨b, 0, none⟩), .string L] w fun e w' => e = .returned (.bool false) ∧ Rd b s i m w' ∧ Mv b w w' := by
  have hs' := hs
  unfold maxLen at hs
  have hc0 := h.c0; have hc1 := h.c1
  rcases Nat.lt_or_ge i s.size with hi | hi
  · rw [peek_size hi] at hc
    have hix := ix_neg hc
    have hne : ((i : Int) == (s.size : Int)) = false := by simp; omega
    have H := Lib.hid h; clear h hc
    have hd : decide (ix L.data.toList s[i] < 0) = true := by simp; omega
    clear hix
    go_enter Tryz.func136, Tryz.ntmps136
    go_wp2
    go_quiet ((go_at_call 84; exact Calls.quiet_of_same (indexByte_calls _ _ _)))
    go_wp2
    go_ret
    exact ⟨rfl, H.out.drewN _, (Mv.refl b w).drewN _⟩
  · have : i = s.size := by omega
    subst this
    have hne : ((s.size : Int) == (s.size : Int)) = true := by simp
    have H := Lib.hid h; clear h hc
    go_enter Tryz.func136, Tryz.ntmps136
    go_wp2
    go_quiet (fail)
    go_wp2
    go_ret
    exact ⟨rfl, H.out.drewN _, (Mv.refl b w).drewN _⟩

theorem opt_in {s L : Cx.Bytes} {i : Nat} (h : Cx.peek s i ∈ L) : Cx.opt s L i = i + 1 := by unfold Cx.opt; rw [if_pos h]
theorem opt_out {s L : Cx.Bytes} {i : Nat} (h : Cx.peek s i ∉ L) : Cx.opt s L i = i := by unfold Cx.opt; rw [if_neg h]

/-- Does one of some bytes stand at a place? Under a name that a walk does not open. -/
def sk (s L : List UInt8) (i : Nat) : Bool := decide (Cx.peek s i ∈ L)
theorem sk_opt {s L : List UInt8} {i : Nat} : Cx.opt s L i = if sk s L i = true then i + 1 else i := by unfold Cx.opt sk; simp
theorem skip_calls (s : ByteArray) (i : Nat) (m : Int) (b : Nat) (L : ByteArray) (w : World) (h : Rd b s i m w) (hle : i ≤ s.size) (hs : s.size ≤ maxLen) (h0 : (0 : UInt8) ∉ L.data.toList) :
    Calls Tryz.prog 136 #[.pointer (some ⟨b, 0, none⟩), .string L] w fun e w' => e = .returned (.bool (sk s.data.toList L.data.toList i)) ∧ Rd b s (Cx.opt s.data.toList L.data.toList i : Nat) m w' ∧ Mv b w w' := by
  by_cases hc : Cx.peek s.data.toList i ∈ L.data.toList
  · rw [opt_in hc, show sk s.data.toList L.data.toList i = true by simpa [sk] using hc]
    exact skip_yes s i m b L w h hs h0 hc
  · rw [opt_out hc, show sk s.data.toList L.data.toList i = false by simpa [sk] using hc]
    exact skip_no s i m b L w h hle hs hc

set_option maxRecDepth 100000 in
set_option maxHeartbeats 1000000 in
/-- The text of a number is what the reader went past. -/
theorem number_calls (s : ByteArray) (i : Nat) (m : Int) (b : Nat) (w : World) (h : Rd b s i m w) (hle : i ≤ s.size) (hs : s.size ≤ maxLen) :
    Calls Tryz.prog 88 #[.pointer (some ⟨b, 0, none⟩)] w
      (Gives (Cx.number s.data.toList i) (fun j e w' => e = .returned (.string ⟨((s.data.toList.drop i).take (j - i)).toArray⟩) ∧ Rd b s j m w') b w) := by
  have hs' := hs
  unfold maxLen at hs
  have h1 := h.c1
  have H := Lib.hid h; clear h
  go_enter Tryz.func88, Tryz.ntmps88
  go_wp2_with fail
  refine (skip_calls s i m b ⟨#[45]⟩ _ H.out hle hs' (by decide)).mono ?_
  rintro e w1 ⟨rfl, g1, g2⟩
  have hle1 : Cx.opt s.data.toList [45] i ≤ s.size := Cx.opt_len (by decide) hle
  have hge1 := (Cx.opt_le (s := s.data.toList) (l := [45]) (i := i)).1
  generalize hp : Cx.opt s.data.toList [45] i = p at hle1 hge1
  have G1 : Hid (Rd b s p m w1) := by rw [← hp]; exact g1
  have G2 := Lib.hid g2; have HP := Lib.hid hp; clear g1 g2 h1 hp
  go_upto_if 12 with (go_at_call 136; refine (skip_calls s p m b ⟨#[48]⟩ _ G1.out hle1 hs' (by decide)).mono ?_; rintro e w2 ⟨rfl, g1, g2⟩)
  go_cut [3] (fun x wr => ∃ a : Nat, x = .int .i64 i ∧ Cx.numInt s.data.toList p = .ok a ∧ Rd b s a m wr ∧ Mv b w wr)
  case first =>
    have hns : sk s.data.toList [48] p = true → Cx.numInt s.data.toList p = .ok (p + 1) := fun hk => by unfold Cx.numInt; rw [sk_opt, if_pos hk, if_neg (by omega)]
    have hno : sk s.data.toList [48] p = false → Cx.numInt s.data.toList p = Cx.digits s.data.toList p := fun hk => by unfold Cx.numInt; rw [sk_opt, hk]; simp
    have hrs : sk s.data.toList [48] p = true → Rd b s (p + 1 : Nat) m w2 := fun hk => by have h' := g1; rw [sk_opt, if_pos hk] at h'; exact h'
    have hro : sk s.data.toList [48] p = false → Rd b s p m w2 := fun hk => by have h' := g1; rw [sk_opt, hk] at h'; exact h'
    have HNS := Lib.hid hns; have HNO := Lib.hid hno; have HRS := Lib.hid hrs; have HRO := Lib.hid hro; have GM := Lib.hid (G2.out.trans g2)
    clear hns hno hrs hro g1 g2
    go_wp2_with fail
    · have hk : sk s.data.toList [48] p = false := by have h' : (!sk s.data.toList [48] p) = true := by assumption
                                                      simpa using h'
      refine (digits_calls s p m b _ (HRO.out hk) hle1 hs').mono ?_
      intro e w3 hg
      cases hr : Cx.digits s.data.toList p with
      | ok a =>
        obtain ⟨⟨rfl, k1⟩, k2⟩ := hg.of_ok hr
        have HR := Lib.hid hr; have K1 := Lib.hid k1; have K2 := Lib.hid k2; have HK := Lib.hid hk; clear hr k1 k2 hg hk
        go_wp2_with fail
        go_meet
        case rel => exact ⟨a, rfl, by rw [HNO.out HK.out]; exact HR.out, K1.out, GM.out.trans K2.out⟩
      | error x =>
        obtain ⟨rfl, k2⟩ := hg.of_err hr
        refine ⟨rfl, Gives.err (x := x) ?_ (GM.out.trans k2)⟩
        unfold Cx.number
        rw [HP.out, HNO.out hk, hr]
    · have hk : sk s.data.toList [48] p = true := by have h' : (!sk s.data.toList [48] p) = false := by assumption
                                                     simpa using h'
      go_meet
      case rel => exact ⟨p + 1, rfl, HNS.out hk, HRS.out hk, GM.out⟩
  case rest =>
    obtain ⟨a, rfl, q1, q2, q3⟩ := hcut
    have hal := Cx.numInt_ok q1
    have hla : a ≤ s.size := hal.2
    have hpa : p < a := hal.1
    have Q1 := Lib.hid q1; have Q2 := Lib.hid q2; have Q3 := Lib.hid q3
    clear q1 q2 q3 hal g1 g2
    -- the fraction
    go_upto_if 16 with (go_at_call 136; refine (skip_calls s a m b ⟨#[46]⟩ _ Q2.out hla hs' (by decide)).mono ?_; rintro e w4 ⟨rfl, g1, g2⟩)
    go_cut [3] (fun x wr => ∃ c : Nat, x = .int .i64 i ∧ Cx.numFrac s.data.toList a = .ok c ∧ Rd b s c m wr ∧ Mv b w wr)
    case first =>
      have hns : sk s.data.toList [46] a = false → Cx.numFrac s.data.toList a = .ok a := fun hk => by unfold Cx.numFrac; rw [sk_opt, hk]; simp
      have hno : sk s.data.toList [46] a = true → Cx.numFrac s.data.toList a = Cx.digits s.data.toList (a + 1) := fun hk => by unfold Cx.numFrac; rw [sk_opt, hk]; simp
      have hrs : sk s.data.toList [46] a = false → Rd b s a m w4 := fun hk => by have h' := g1; rw [sk_opt, hk] at h'; exact h'
      have hro : sk s.data.toList [46] a = true → Rd b s (a + 1 : Nat) m w4 ∧ a + 1 ≤ s.size := fun hk => by
        have h' := g1; rw [sk_opt, hk] at h'
        have hlt : Cx.opt s.data.toList [46] a ≤ s.size := Cx.opt_len (by decide) hla
        rw [sk_opt, hk] at hlt
        exact ⟨h', hlt⟩
      have HNS := Lib.hid hns; have HNO := Lib.hid hno; have HRS := Lib.hid hrs; have HRO := Lib.hid hro; have GM := Lib.hid (Q3.out.trans g2)
      clear hns hno hrs hro g1 g2
      go_wp2_with fail
      · have hk : sk s.data.toList [46] a = true := by assumption
        refine (digits_calls s (a + 1) m b _ (HRO.out hk).1 (HRO.out hk).2 hs').mono ?_
        intro e w3 hg
        cases hr : Cx.digits s.data.toList (a + 1) with
        | ok c =>
          obtain ⟨⟨rfl, k1⟩, k2⟩ := hg.of_ok hr
          have HR := Lib.hid hr; have K1 := Lib.hid k1; have K2 := Lib.hid k2; have HK := Lib.hid hk; clear hr k1 k2 hg hk
          go_wp2_with fail
          go_meet
          case rel => exact ⟨c, rfl, by rw [HNO.out HK.out]; exact HR.out, K1.out, GM.out.trans K2.out⟩
        | error x =>
          obtain ⟨rfl, k2⟩ := hg.of_err hr
          refine ⟨rfl, Gives.err (x := x) ?_ (GM.out.trans k2)⟩
          unfold Cx.number
          rw [HP.out, Q1.out]; simp only
          rw [HNO.out hk, hr]
      · have hk : sk s.data.toList [46] a = false := by assumption
        go_meet
        case rel => exact ⟨a, rfl, HNS.out hk, HRS.out hk, GM.out⟩
    case rest =>
      obtain ⟨c, rfl, q1, q2, q3⟩ := hcut
      have hcl := Cx.numFrac_ok (s := s.data.toList) hla q1
      have hlc : c ≤ s.size := hcl.2
      have hac : a ≤ c := hcl.1
      have R1 := Lib.hid q1; have R2 := Lib.hid q2; have R3 := Lib.hid q3
      clear q1 q2 q3 hcl g1 g2
      -- the exponent
      go_upto_if 20 with (go_at_call 136; refine (skip_calls s c m b ⟨#[101, 69]⟩ _ R2.out hlc hs' (by decide)).mono ?_; rintro e w4 ⟨rfl, g1, g2⟩)
      go_cut [3] (fun x wr => ∃ j : Nat, x = .int .i64 i ∧ Cx.numExp s.data.toList c = .ok j ∧ Rd b s j m wr ∧ Mv b w wr)
      case first =>
        have hns : sk s.data.toList [101, 69] c = false → Cx.numExp s.data.toList c = .ok c := fun hk => by unfold Cx.numExp; rw [sk_opt, hk]; simp
        have hno : sk s.data.toList [101, 69] c = true → Cx.numExp s.data.toList c = Cx.digits s.data.toList (Cx.opt s.data.toList [43, 45] (c + 1)) := fun hk => by unfold Cx.numExp; rw [sk_opt, hk]; simp
        have hrs : sk s.data.toList [101, 69] c = false → Rd b s c m w4 := fun hk => by have h' := g1; rw [sk_opt, hk] at h'; exact h'
        have hro : sk s.data.toList [101, 69] c = true → Rd b s (c + 1 : Nat) m w4 ∧ c + 1 ≤ s.size := fun hk => by
          have h' := g1; rw [sk_opt, hk] at h'
          have hlt : Cx.opt s.data.toList [101, 69] c ≤ s.size := Cx.opt_len (by decide) hlc
          rw [sk_opt, hk] at hlt
          exact ⟨h', hlt⟩
        have HNS := Lib.hid hns; have HNO := Lib.hid hno; have HRS := Lib.hid hrs; have HRO := Lib.hid hro; have GM := Lib.hid (R3.out.trans g2)
        clear hns hno hrs hro g1 g2
        go_wp2_with fail
        · have hk : sk s.data.toList [101, 69] c = true := by assumption
          have hro := HRO.out hk
          have HNO := Lib.hid (HNO.out hk)
          have RR := Lib.hid hro.1
          have hle2 := hro.2
          clear hro hk HRO HNS HRS
          refine (skip_calls s (c + 1) m b ⟨#[43, 45]⟩ _ RR.out hle2 hs' (by decide)).mono ?_
          rintro e w5 ⟨rfl, g1, g2⟩
          have hle3 : Cx.opt s.data.toList [43, 45] (c + 1) ≤ s.size := Cx.opt_len (by decide) hle2
          generalize hq : Cx.opt s.data.toList [43, 45] (c + 1) = q at hle3
          have G1 : Hid (Rd b s q m w5) := by rw [← hq]; exact g1
          have GM2 := Lib.hid (GM.out.trans g2)
          have HQ := Lib.hid hq
          clear g1 g2 hq
          go_wp2_with fail
          refine (digits_calls s q m b _ G1.out hle3 hs').mono ?_
          intro e w3 hg
          cases hr : Cx.digits s.data.toList q with
          | ok j =>
            obtain ⟨⟨rfl, k1⟩, k2⟩ := hg.of_ok hr
            have HR := Lib.hid hr; have K1 := Lib.hid k1; have K2 := Lib.hid k2; clear hr k1 k2 hg
            go_wp2_with fail
            go_meet
            case rel => exact ⟨j, rfl, by rw [HNO.out, HQ.out]; exact HR.out, K1.out, GM2.out.trans K2.out⟩
          | error x =>
            obtain ⟨rfl, k2⟩ := hg.of_err hr
            refine ⟨rfl, Gives.err (x := x) ?_ (GM2.out.trans k2)⟩
            unfold Cx.number
            rw [HP.out, Q1.out]; simp only
            rw [R1.out]; simp only
            rw [HNO.out, HQ.out, hr]
        · have hk : sk s.data.toList [101, 69] c = false := by assumption
          go_meet
          case rel => exact ⟨c, rfl, HNS.out hk, HRS.out hk, GM.out⟩
      case rest =>
        obtain ⟨j, rfl, q1, q2, q3⟩ := hcut
        have hjl := Cx.numExp_ok (s := s.data.toList) hlc q1
        have hlj : j ≤ s.size := hjl.2
        have hcj : c ≤ j := hjl.1
        have hnum : Cx.number s.data.toList i = if j - i > 40 then .error (5, i) else .ok j := by
          unfold Cx.number
          rw [HP.out, Q1.out]; simp only
          rw [R1.out]; simp only
          rw [q1]
        have HN := Lib.hid hnum; have S2 := Lib.hid q2; have S3 := Lib.hid q3
        have c0 := q2.c0; have c1 := q2.c1
        clear hnum q1 q2 q3 hjl g1 g2
        have hw : IntKind.i64.wrap ((j : Int) - i) = (j : Int) - i := IntWalk.i64_in _ (by omega)
        by_cases hlong : 40 < j - i
        · have hl : (40 : Int) < (j : Int) - i := by omega
          go_wp2_with (go_at_call 49; refine (give_calls _ _ _ _).mono ?_; rintro e w' ⟨rfl, rfl⟩)
          have hn := HN.out
          rw [if_pos hlong] at hn
          exact ⟨rfl, Gives.err hn S3.out⟩
        · have hl : ¬ (40 : Int) < (j : Int) - i := by omega
          have hij : (i : Int) ≤ j := by omega
          have hjs : (j : Int) ≤ s.size := by omega
          go_wp2_with fail
          go_quiet (fail)
          go_wp2
          go_ret
          have hn := HN.out
          rw [if_neg hlong] at hn
          refine Gives.ok hn (S3.out.drewN _) ⟨?_, S2.out.drewN _⟩
          exact ret_str (extract_list s i j)
end Go.Proofs.YtejlddimokmgjaaGreatDoor
