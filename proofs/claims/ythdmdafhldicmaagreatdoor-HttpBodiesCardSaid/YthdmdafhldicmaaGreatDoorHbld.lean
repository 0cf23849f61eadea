/- WALKS: the writers of a strings.Builder that the call itself has made, at this program (the shelf's own layings do not fit this cut of copyCheck: so they are walked here, after the shelf's text). -/
import Derived.Test.YthdmdafhldicmaaGreatDoorHBase
import Derived.Test.YthdmdafhldicmaaGreatDoorShelf
import Derived.Shelf.Strings.BuilderK
namespace Go.Proofs.YthdmdafhldicmaaGreatDoor
open Go.RowKit

theorem infoBld : (Tryz.prog.info? 57).map (·.size) = some 2 := by kernel_rfl
theorem infoByte : (Tryz.prog.info? 5).map (fun i => (i.zero, i.size, i.bytes)) = some (some (.int .u8 0), 1, 1) := by kernel_rfl

set_option maxRecDepth 100000 in
theorem copyCheck_used (b : Nat) (w : World) (h0 : w.cell? ⟨b, 0, none⟩ = some (.pointer (some ⟨b, 0, none⟩))) :
    Calls Tryz.prog 44 #[.pointer (some ⟨b, 0, none⟩)] w fun e w' => e = .returned (.tuple #[]) ∧ w' = w := by
  obtain ⟨j, hj, _⟩ := Option.map_eq_some_iff.1 infoBld
  go_enter Tryz.func44, Tryz.ntmps44
  go_wp2
  rw [Lib.run_neq_ptr_same w _ Tryz.underlying55 hj]
  go_wp2
  go_end0
  exact ⟨rfl, rfl⟩

set_option maxRecDepth 100000 in
theorem copyCheck_fresh (b : Nat) (w : World) (h0 : w.cell? ⟨b, 0, none⟩ = some (.pointer none)) (hsh : w.shape? b = some (57, 2)) (hfz : w.frozen? ⟨b, 0, none⟩ = false) :
    Calls Tryz.prog 44 #[.pointer (some ⟨b, 0, none⟩)] w fun e w' => e = .returned (.tuple #[]) ∧ w' = w.setCell ⟨b, 0, none⟩ (.pointer (some ⟨b, 0, none⟩)) := by
  obtain ⟨j, hj, hjs⟩ := Option.map_eq_some_iff.1 infoBld
  go_enter Tryz.func44, Tryz.ntmps44
  go_wp2
  rw [Lib.run_to_unsafe w ⟨b, 0, none⟩ Tryz.underlying55 Tryz.underlying94 hj (by rw [hjs]; decide) hsh (Nat.zero_lt_succ 1)]
  simp only [Result.andThen]
  rw [Oper.upon_value]
  go_wp2
  rw [run_callFunc_extern Tryz.func66 (by kernel_rfl) (by kernel_rfl) (by kernel_rfl) (e := Extern.AbiNoEscape.same) (by kernel_rfl)]
  rw [Lib.run_noEscape]
  simp only [Result.andThen]
  rw [Oper.upon_value]
  go_wp2
  rw [Lib.run_from_unsafe w ⟨b, 0, none⟩ Tryz.underlying94 Tryz.underlying55 hj hsh (by kernel_rfl)]
  simp only [Result.andThen]
  rw [Oper.upon_value]
  go_wp2
  go_end0
  exact ⟨rfl, rfl⟩

theorem copyCheck_k (B b : Nat) (bs : List Value) (w : World) (h : Lib.IsBuilderF 57 5 B b bs w) :
    Calls Tryz.prog 44 #[.pointer (some ⟨b, 0, none⟩)] w fun e w' => e = .returned (.tuple #[]) ∧ (Lib.BuilderAtF 57 5 B b (.pointer (some ⟨b, 0, none⟩)) bs w' ∧ Below B w w' ∧ Lib.OthersKept 5 (some b) w w') := by
  rcases h with h | h
  · refine (copyCheck_fresh b w h.cell0 h.shape h.frozen0).mono ?_
    rintro e w' ⟨rfl, rfl⟩
    exact ⟨rfl, h.used _, (Below.refl B w).setCell (p := ⟨b, 0, none⟩) h.1 _, (Lib.OthersKept.refl _ _ w).setCell ⟨b, 0, none⟩ rfl _⟩
  · refine (copyCheck_used b w h.cell0).mono ?_
    rintro e w' ⟨rfl, rfl⟩
    exact ⟨rfl, h, Below.refl B _, Lib.OthersKept.refl _ _ _⟩

theorem writeByte_k (B b : Nat) (bs : List Value) (c : Int) (w : World) (h : Lib.IsBuilderF 57 5 B b bs w) (hlen : bs.length + 1 ≤ 140737488355328) (hBw : B ≤ w.heap.size) :
    Calls Tryz.prog 30 #[.pointer (some ⟨b, 0, none⟩), .int .u8 c] w fun e w' => e = .returned .nilIface ∧ (Lib.BuilderAtF 57 5 B b (.pointer (some ⟨b, 0, none⟩)) (bs ++ [.int .u8 c]) w' ∧ Below B w w' ∧ Lib.OthersKept 5 (some b) w w') := by
  obtain ⟨i0, hi, hz0, hz1, hz2⟩ := info_parts infoByte
  go_enter Tryz.func30, Tryz.ntmps30
  go_wp2_with (go_at_call 44; refine (copyCheck_k B b bs _ h).mono ?_)
  rintro e w1 ⟨rfl, h1, hb1, hk1⟩
  obtain ⟨hB, v, hbk, hown, hne⟩ := h1
  have c0 : w1.cell? ⟨b, 0, none⟩ = some (.pointer (some ⟨b, 0, none⟩)) := by rw [Lib.cell_of_heap hbk]; rfl
  have c1 : w1.cell? ⟨b, 1, none⟩ = some v := by rw [Lib.cell_of_heap hbk]; rfl
  go_wp2_with (at_builtin; refine wpList_append_ownF _ rfl _ _ 50 rfl B 5 i0 (.int .u8 0) 1 1 Tryz.underlying50 hi hz0 hz1 hz2 rfl (by decide) _ _ _ rfl (hown.alloc _) ⟨w1.heap.size, 0, none⟩ 1 1 [.int .u8 c] rfl rfl ?c1 ?c2 ?c3 ?c4 ?c5 ?_)
  case c1 =>
    intro j u hj
    match j, hj with
    | 0, hj => simp at hj; subst hj; simp [Addr.add]
  case c2 => intro u hu; simp at hu; subst hu; rfl
  case c3 => unfold maxLen; omega
  case c4 => omega
  case c5 => have := hb1.size; simp; omega
  intro v' w2 hown' hgrow _
  have hlt : b < w1.heap.size := by
    rcases Nat.lt_or_ge b w1.heap.size with h' | h'
    · exact h'
    · simp [Array.getElem?_eq_none h'] at hbk
  have hb2 : w2.heap[b]? = some (.cells #[.pointer (some ⟨b, 0, none⟩), v] 57 (0, 0)) := by
    rw [hgrow.block b (by simp; omega) (fun e => hne e.symm), Lib.alloc_old w1 _ b hlt]
    exact hbk
  have d0 : w2.cell? ⟨b, 0, none⟩ = some (.pointer (some ⟨b, 0, none⟩)) := by rw [Lib.cell_of_heap hb2]; rfl
  have d1 : w2.cell? ⟨b, 1, none⟩ = some v := by rw [Lib.cell_of_heap hb2]; rfl
  have f1 : w2.frozen? ⟨b, 1, none⟩ = false := Lib.frozen_of_heap hb2 1
  obtain ⟨g, cap, rfl⟩ : ∃ g cap, v' = .slice (some ⟨g, 0, none⟩) (bs.length + 1) cap := by
    rcases hown'.2 with ⟨_, h0⟩ | ⟨g, cap, cur, fz, hv, _⟩
    · omega
    · exact ⟨g, cap, hv⟩
  go_wp2
  go_ret
  refine ⟨rfl, ?_, ?_, ((hk1.alloc _).grown hgrow (Lib.ownsRowF_kind (hown.alloc _))).setCell ⟨b, 1, none⟩ rfl _⟩
  · exact Lib.BuilderAtF.put (T := 57) (e := 5) hB hb2 (bs' := bs ++ [.int .u8 c]) (by simpa using hown') (by decide)
  · exact ((hb1.alloc (by have := hb1.size; omega) _).grown hgrow (by have := hb1.size; simp; omega) (fun k hk => (hown.lt k hk).1)).setCell (p := ⟨b, 1, none⟩) hB _

theorem writeString_k (B b : Nat) (bs : List Value) (s : ByteArray) (w : World) (h : Lib.IsBuilderF 57 5 B b bs w) (hlen : bs.length + s.size ≤ 140737488355328) (hBw : B ≤ w.heap.size) :
    Calls Tryz.prog 28 #[.pointer (some ⟨b, 0, none⟩), .string s] w fun e w' => e = .returned (.tuple #[.int .i64 s.size, .nilIface]) ∧ (Lib.BuilderAtF 57 5 B b (.pointer (some ⟨b, 0, none⟩)) (bs ++ Lib.strCells s) w' ∧ Below B w w' ∧ Lib.OthersKept 5 (some b) w w') := by
  obtain ⟨i0, hi, hz0, hz1, hz2⟩ := info_parts infoByte
  go_enter Tryz.func28, Tryz.ntmps28
  go_wp2_with (go_at_call 44; refine (copyCheck_k B b bs _ h).mono ?_)
  rintro e w1 ⟨rfl, h1, hb1, hk1⟩
  obtain ⟨hB, v, hbk, hown, hne⟩ := h1
  have c0 : w1.cell? ⟨b, 0, none⟩ = some (.pointer (some ⟨b, 0, none⟩)) := by rw [Lib.cell_of_heap hbk]; rfl
  have c1 : w1.cell? ⟨b, 1, none⟩ = some v := by rw [Lib.cell_of_heap hbk]; rfl
  go_wp2_with (at_builtin; refine Lib.wpList_append_own_stringF _ rfl _ _ 50 9 rfl B 5 i0 Tryz.underlying50 Tryz.underlying9 hi hz0 hz1 hz2 _ _ _ rfl hown s rfl ?c3 ?c4 ?c5 ?_)
  case c3 => unfold maxLen; omega
  case c4 => omega
  case c5 => have := hb1.size; omega
  intro v' w2 hown' hgrow _
  have hlt : b < w1.heap.size := by
    rcases Nat.lt_or_ge b w1.heap.size with h' | h'
    · exact h'
    · simp [Array.getElem?_eq_none h'] at hbk
  have hb2 : w2.heap[b]? = some (.cells #[.pointer (some ⟨b, 0, none⟩), v] 57 (0, 0)) := by
    rw [hgrow.block b hlt (fun e => hne e.symm)]
    exact hbk
  have d0 : w2.cell? ⟨b, 0, none⟩ = some (.pointer (some ⟨b, 0, none⟩)) := by rw [Lib.cell_of_heap hb2]; rfl
  have d1 : w2.cell? ⟨b, 1, none⟩ = some v := by rw [Lib.cell_of_heap hb2]; rfl
  have f1 : w2.frozen? ⟨b, 1, none⟩ = false := Lib.frozen_of_heap hb2 1
  obtain ⟨ao, n', cap, rfl⟩ : ∃ ao n' cap, v' = .slice ao n' cap := by
    rcases hown'.2 with ⟨hv, _⟩ | ⟨g, cap, cur, fz, hv, _⟩
    · exact ⟨_, _, _, hv⟩
    · exact ⟨_, _, _, hv⟩
  go_wp2
  go_ret2
  refine ⟨rfl, ?_, ?_, (hk1.grown hgrow (Lib.ownsRowF_kind hown)).setCell ⟨b, 1, none⟩ rfl _⟩
  · exact Lib.BuilderAtF.put (T := 57) (e := 5) hB hb2 (bs' := bs ++ Lib.strCells s) (by simpa [Lib.strCells_length] using hown') (by decide)
  · exact (hb1.grown hgrow (by have := hb1.size; omega) (fun k hk => (hown.lt k hk).1)).setCell (p := ⟨b, 1, none⟩) hB _
/-- A builder of the call's own, at a block. -/
def Bld (B c : Nat) (l : List UInt8) (w : World) : Prop := Lib.IsBuilderF 57 5 B c (Lib.byteCells l) w
theorem Bld.kept {B c : Nat} {l : List UInt8} {w w' : World} {b : Nat} (h : Bld B c l w) (k : Mv b w w') (hb : b < B) : Bld B c l w' := by
  have key : ∀ p, Lib.BuilderAtF 57 5 B c p (Lib.byteCells l) w → Lib.BuilderAtF 57 5 B c p (Lib.byteCells l) w' := by
    intro p ⟨hB, v, hbk, hown, hne⟩
    refine ⟨hB, v, k.heap hbk (by omega), hown.kept k ?_, hne⟩
    right; intro e
    have := hown.lt b e; omega
  exact h.imp (key _) (key _)
theorem Bld.drewN {B c : Nat} {l : List UInt8} {w : World} (h : Bld B c l w) (n : Nat) : Bld B c l (w.drewN n) := by
  have key : ∀ p, Lib.BuilderAtF 57 5 B c p (Lib.byteCells l) w → Lib.BuilderAtF 57 5 B c p (Lib.byteCells l) (w.drewN n) := fun p ⟨hB, v, hbk, hown, hne⟩ => ⟨hB, v, hbk, hown, hne⟩
  exact h.imp (key _) (key _)
theorem Bld.lt {B c : Nat} {l : List UInt8} {w : World} (h : Bld B c l w) : B ≤ c ∧ c < w.heap.size := by
  have key : ∀ p, Lib.BuilderAtF 57 5 B c p (Lib.byteCells l) w → B ≤ c ∧ c < w.heap.size := by
    intro p ⟨hB, v, hbk, _, _⟩
    refine ⟨hB, ?_⟩
    rcases Nat.lt_or_ge c w.heap.size with h' | h'
    · exact h'
    · simp [Array.getElem?_eq_none h'] at hbk
  exact h.elim (key _) (key _)
theorem Bld.fresh (w : World) : Bld w.heap.size w.heap.size [] (w.alloc (.cells #[.pointer none, .slice none 0 0] 57)) :=
  .inl ⟨Nat.le_refl _, .slice none 0 0, heap_alloc_new w _, World.ownsRowF_nil _ _ _ _, by simp [Value.ownBlock]⟩

/-- A write to a builder of the call's own. -/
theorem writeString_calls (B c : Nat) (l : List UInt8) (x : ByteArray) (w : World) (h : Bld B c l w) (hlen : l.length + x.size ≤ 140737488355328) (hB : B ≤ w.heap.size) :
    Calls Tryz.prog 28 #[.pointer (some ⟨c, 0, none⟩), .string x] w fun e w' => (∃ v, e = .returned (.tuple #[v, .nilIface])) ∧ Bld B c (l ++ x.data.toList) w' ∧ Below B w w' ∧ Lib.OthersKept 5 (some c) w w' := by
  refine (writeString_k B c _ x w h (by rw [Lib.byteCells_length]; exact hlen) hB).mono ?_
  rintro e w' ⟨rfl, h1, h2, h3⟩
  exact ⟨⟨_, rfl⟩, .inr (by rw [Lib.byteCells_append, ← Lib.strCells_eq]; exact h1), h2, h3⟩
theorem writeByte_calls (B c : Nat) (l : List UInt8) (x : UInt8) (w : World) (h : Bld B c l w) (hlen : l.length + 1 ≤ 140737488355328) (hB : B ≤ w.heap.size) :
    Calls Tryz.prog 30 #[.pointer (some ⟨c, 0, none⟩), .int .u8 x.toNat] w fun e w' => e = .returned .nilIface ∧ Bld B c (l ++ [x]) w' ∧ Below B w w' ∧ Lib.OthersKept 5 (some c) w w' := by
  refine (writeByte_k B c _ x.toNat w h (by rw [Lib.byteCells_length]; exact hlen) hB).mono ?_
  rintro e w' ⟨rfl, h1, h2, h3⟩
  exact ⟨rfl, .inr (by rw [Lib.byteCells_append]; exact h1), h2, h3⟩
theorem string_calls (B c : Nat) (l : List UInt8) (w : World) (h : Bld B c l w) (hB : B ≤ w.heap.size) :
    Calls Tryz.prog 32 #[.pointer (some ⟨c, 0, none⟩)] w fun e w' => e = .returned (.string ⟨l.toArray⟩) ∧ Bld B c l w' ∧ Below B w w' ∧ Lib.OthersKept 5 (some c) w w' :=
  Tryz.Builder_String_any_k B c l w h hB
theorem Bld.below {B c : Nat} {l : List UInt8} {w w' : World} (h : Bld B c l w) (k : Below w.heap.size w w') : Bld B c l w' := by
  have h' : Bld B c l w := h
  have hl := h.lt
  have key : ∀ p, Lib.BuilderAtF 57 5 B c p (Lib.byteCells l) w → Lib.BuilderAtF 57 5 B c p (Lib.byteCells l) w' := by
    intro p ⟨hB, v, hbk, hown, hne⟩
    refine ⟨hB, v, (k.block _ hl.2).trans hbk, ?_, hne⟩
    refine hown.kept (row := some w.heap.size) ⟨k.os, k.tape, k.output, k.size, fun i hi _ => k.block i hi⟩ (.inr ?_)
    intro e
    have := hown.lt _ e; omega
  exact h'.imp (key _) (key _)

theorem len_calls (B c : Nat) (l : List UInt8) (w : World) (h : Bld B c l w) :
    Calls Tryz.prog 62 #[.pointer (some ⟨c, 0, none⟩)] w fun e w' => e = .returned (.int .i64 l.length) ∧ w' = w := by
  have := Tryz.Builder_Len_f B c (Lib.byteCells l) w h
  rw [Lib.byteCells_length] at this
  exact this
end Go.Proofs.YthdmdafhldicmaaGreatDoor
