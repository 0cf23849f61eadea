/- SLICES OF TEXTS, OF NUMBERS that came in: their reading as data gives their shape in memory. No walk. -/
import Derived.Test.YthdmdafhldicmaaGreatDoorHrw
import Derived.ProofKit
namespace Go.Proofs.YthdmdafhldicmaaGreatDoor
open Go.RowKit

theorem gather {α : Type} : ∀ {n : Nat} {p : Nat → α → Prop}, (∀ i, i < n → ∃ x, p i x) → ∃ l : List α, l.length = n ∧ ∀ i x, l[i]? = some x → p i x
  | 0, _, _ => ⟨[], rfl, fun _ _ h => by simp at h⟩
  | n + 1, p, h => by
    obtain ⟨x0, h0⟩ := h 0 (by omega)
    obtain ⟨l, hl, hp⟩ := gather (n := n) (p := fun i => p (i + 1)) (fun i hi => h (i + 1) (by omega))
    refine ⟨x0 :: l, by simp [hl], fun i x hx => ?_⟩
    cases i with
    | zero => simp only [List.getElem?_cons_zero, Option.some.injEq] at hx; subst hx; exact h0
    | succ i => exact hp i x (by simpa using hx)
theorem cell_addr {w : World} {a : Addr} {v : Value} (h : w.cell? a = some v) : ∃ b o, a = ⟨b, o, none⟩ ∧ b < w.heap.size := by
  have hb := World.block_lt_of_cell? w a h
  obtain ⟨b, o, sp⟩ := a
  unfold World.cell? at h
  simp only at h
  split at h
  · split at h
    · cases h
    · rename_i hs
      cases sp with
      | none => exact ⟨b, o, rfl, hb⟩
      | some x => simp at hs
  · cases h
theorem add_plain (b o i : Nat) : (⟨b, o, none⟩ : Addr).add i = ⟨b, o + i, none⟩ := by
  unfold Addr.add
  by_cases h : i = 0
  · subst h; simp
  · rw [if_neg h]
theorem at_addr {w : World} {a : Addr} {n : Nat} {V : Nat → Value → Prop} (h : ∀ i, i < n → ∃ v, w.cell? (a.add i) = some v ∧ V i v) (i : Nat) (hi : i < n) : ∃ b o v, a = ⟨b, o, none⟩ ∧ b < w.heap.size ∧ w.cell? ⟨b, o + i, none⟩ = some v ∧ V i v := by
  obtain ⟨v0, h0, _⟩ := h 0 (by omega)
  obtain ⟨b, o, ha, hb⟩ := cell_addr h0
  have ha' : a = ⟨b, o, none⟩ := by
    have e : a.add 0 = a := by unfold Addr.add; simp
    rw [e] at ha; exact ha
  obtain ⟨v, h1, h2⟩ := h i hi
  rw [ha', add_plain] at h1
  exact ⟨b, o, v, ha', hb, h1, h2⟩
theorem under_int : Tryz.prog.underlying 3 = some (.int .i64) := Tryz.underlying3
theorem under_string : Tryz.prog.underlying 9 = some .string := Tryz.underlying9
theorem cellsS : Tryz.prog.cellsOf 9 = 1 := by kernel_rfl
theorem cellsI : Tryz.prog.cellsOf 3 = 1 := by kernel_rfl

theorem srow_of_trod {H : Type} {enc : TypeId × Value → H} {w : World} {sp : Nat → Bool} {fuel : Nat} {v : Value} {y : DataW H × List MemPlace} (h : DataW.trod enc Tryz.prog w 0 sp true fuel 33 [v] = some y) :
    ∃ (ns : List Hx.Bytes) (a : Option Addr) (c : Nat), v = .slice a ns.length c ∧ SRow w a ns := by
  rcases DataW.trod_slice Tryz.underlying33 h with ⟨h0, _⟩ | ⟨a, len, cap, elems, rest, n, _, h0, _, _, hl, hm, hlen, hel, _⟩
  · injection h0 with h0; subst h0
    exact ⟨[], none, 0, rfl, fun j x hj => by simp at hj⟩
  · injection h0 with h0; subst h0
    have key : ∀ i, i < len → ∃ v, w.cell? (a.add i) = some v ∧ ∃ x : Hx.Bytes, v = .string ⟨x.toArray⟩ := by
      intro i hi
      have h1 := hel i hi
      rw [List.getElem?_eq_getElem (show i < elems.length by omega)] at h1
      obtain ⟨cs', h2, h3⟩ := Option.bind_eq_some_iff.1 h1
      obtain ⟨t, rfl, _, ht⟩ := DataW.trod_string under_string h3
      rw [cellsS, Nat.mul_one] at h2
      obtain ⟨_, _, h4⟩ := World.cells?_some h2
      have h5 := h4 0 (by omega)
      have e : (a.add i).add 0 = a.add i := by unfold Addr.add; simp
      rw [e] at h5
      exact ⟨.string t, by rw [h5]; rfl, t.data.toList, rfl⟩
    have key2 : ∀ i, i < len → ∃ x : Hx.Bytes, ∃ b o, (some a : Option Addr) = some ⟨b, o, none⟩ ∧ b < w.heap.size ∧ w.cell? ⟨b, o + i, none⟩ = some (.string ⟨x.toArray⟩) := fun i hi => by
      obtain ⟨b, o, v, h1, h2, h3, x, h4⟩ := at_addr key i hi
      exact ⟨x, b, o, by rw [h1], h2, by rw [h3, h4]⟩
    obtain ⟨ns, hns, hp⟩ := gather key2
    exact ⟨ns, some a, cap, by rw [hns], hp⟩

/-- Numbers that came in as a slice. -/
def IRow (w : World) (a : Option Addr) (l : List Int) : Prop := ∀ j x, l[j]? = some x → (-9223372036854775808 ≤ x ∧ x ≤ 9223372036854775807) ∧ ∃ b o, a = some ⟨b, o, none⟩ ∧ b < w.heap.size ∧ w.cell? ⟨b, o + j, none⟩ = some (.int .i64 x)
theorem irow_of_trod {H : Type} {enc : TypeId × Value → H} {w : World} {sp : Nat → Bool} {fuel : Nat} {v : Value} {y : DataW H × List MemPlace} (h : DataW.trod enc Tryz.prog w 0 sp true fuel 29 [v] = some y) :
    ∃ (ns : List Int) (a : Option Addr) (c : Nat), v = .slice a ns.length c ∧ IRow w a ns := by
  rcases DataW.trod_slice Tryz.underlying29 h with ⟨h0, _⟩ | ⟨a, len, cap, elems, rest, n, _, h0, _, _, hl, hm, hlen, hel, _⟩
  · injection h0 with h0; subst h0
    exact ⟨[], none, 0, rfl, fun j x hj => by simp at hj⟩
  · injection h0 with h0; subst h0
    have key : ∀ i, i < len → ∃ v, w.cell? (a.add i) = some v ∧ ∃ x : Int, v = .int .i64 x ∧ (-9223372036854775808 ≤ x ∧ x ≤ 9223372036854775807) := by
      intro i hi
      have h1 := hel i hi
      rw [List.getElem?_eq_getElem (show i < elems.length by omega)] at h1
      obtain ⟨cs', h2, h3⟩ := Option.bind_eq_some_iff.1 h1
      obtain ⟨t, rfl, _, ht⟩ := DataW.trod_int under_int h3
      rw [cellsI, Nat.mul_one] at h2
      obtain ⟨_, _, h4⟩ := World.cells?_some h2
      have h5 := h4 0 (by omega)
      have e : (a.add i).add 0 = a.add i := by unfold Addr.add; simp
      rw [e] at h5
      exact ⟨.int .i64 t, by rw [h5]; rfl, t, rfl, by simpa [Lit.wf, IntKind.min, IntKind.max, IntKind.signed, IntKind.bits] using ht⟩
    have key2 : ∀ i, i < len → ∃ x : Int, (-9223372036854775808 ≤ x ∧ x ≤ 9223372036854775807) ∧ ∃ b o, (some a : Option Addr) = some ⟨b, o, none⟩ ∧ b < w.heap.size ∧ w.cell? ⟨b, o + i, none⟩ = some (.int .i64 x) := fun i hi => by
      obtain ⟨b, o, v, h1, h2, h3, x, h4, h5⟩ := at_addr key i hi
      exact ⟨x, h5, b, o, by rw [h1], h2, by rw [h3, h4]⟩
    obtain ⟨ns, hns, hp⟩ := gather key2
    exact ⟨ns, some a, cap, by rw [hns], hp⟩
end Go.Proofs.YthdmdafhldicmaaGreatDoor
