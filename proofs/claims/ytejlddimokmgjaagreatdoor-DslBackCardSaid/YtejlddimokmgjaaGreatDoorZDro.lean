/- HITS, OPS, DOCUMENTS that came in: their reading as data gives their shape in memory. No walk. -/
import Derived.Test.YtejlddimokmgjaaGreatDoorZDhi
import Derived.ProofKit
namespace Go.Proofs.YtejlddimokmgjaaGreatDoor
open Go.RowKit

theorem cellsI : Tryz.prog.cellsOf 3 = 1 := by kernel_rfl
theorem cellsB : Tryz.prog.cellsOf 4 = 1 := by kernel_rfl
theorem cellsS : Tryz.prog.cellsOf 9 = 1 := by kernel_rfl
theorem cellsD : Tryz.prog.cellsOf 42 = 2 := by kernel_rfl
theorem cellsH : Tryz.prog.cellsOf 44 = 2 := by kernel_rfl
theorem cellsO : Tryz.prog.cellsOf 64 = 3 := by kernel_rfl
theorem under_int : Tryz.prog.underlying 3 = some (.int .i64) := Tryz.underlying3
theorem under_bool : Tryz.prog.underlying 4 = some .bool := Tryz.underlying4
theorem under_string : Tryz.prog.underlying 9 = some .string := Tryz.underlying9

theorem gather {α : Type} : ∀ {n : Nat} {p : Nat → α → Prop}, (∀ i, i < n → ∃ x, p i x) → ∃ l : List α, l.length = n ∧ ∀ i x, l[i]? = some x → p i x
  | 0, _, _ => ⟨[], rfl, fun _ _ h => by simp at h⟩
  | n + 1, p, h => by
    obtain ⟨x0, h0⟩ := h 0 (by omega)
    obtain ⟨l, hl, hp⟩ := gather (n := n) (p := fun i => p (i + 1)) (fun i hi => h (i + 1) (by omega))
    refine ⟨x0 :: l, by simp [hl], fun i x hx => ?_⟩
    cases i with
    | zero => simp only [List.getElem?_cons_zero, Option.some.injEq] at hx; subst hx; exact h0
    | succ i => exact hp i x (by simpa using hx)
theorem flatMap_get {α : Type} {f : α → List Value} {k : Nat} (hk : 0 < k) (hf : ∀ x, (f x).length = k) : ∀ {l : List α} {j : Nat} {u : Value}, (l.flatMap f)[j]? = some u → ∃ x, l[j / k]? = some x ∧ (f x)[j % k]? = some u
  | [], j, u, h => by simp at h
  | x :: l, j, u, h => by
    rw [List.flatMap_cons] at h
    rcases Nat.lt_or_ge j k with hj | hj
    · rw [List.getElem?_append_left (by rw [hf]; exact hj)] at h
      refine ⟨x, ?_, ?_⟩
      · rw [Nat.div_eq_of_lt hj]; rfl
      · rw [Nat.mod_eq_of_lt hj]; exact h
    · rw [List.getElem?_append_right (by rw [hf]; exact hj), hf] at h
      obtain ⟨y, h1, h2⟩ := flatMap_get hk hf h
      refine ⟨y, ?_, ?_⟩
      · rw [show j / k = (j - k) / k + 1 by rw [Nat.div_eq_sub_div hk hj]]; simpa using h1
      · rw [show j % k = (j - k) % k by rw [Nat.mod_eq_sub_mod hj]]; exact h2
theorem cell_addr {w : World} {a : Addr} {v : Value} (h : w.cell? a = some v) : ∃ b o, a = ⟨b, o, none⟩ ∧ b < w.heap.size := by
  have hb := World.block_lt_of_cell? w a h
  obtain ⟨b, o, sp⟩ := a
  unfold World.cell? at h
  simp only at h
  split at h
  · split at h
    · cases h
    · rename_i hs
      cases sp with
      | none => exact ⟨b, o, rfl, hb⟩
      | some x => simp at hs
  · cases h
theorem add_plain (b o i : Nat) : (⟨b, o, none⟩ : Addr).add i = ⟨b, o + i, none⟩ := by
  unfold Addr.add
  by_cases h : i = 0
  · subst h; simp
  · rw [if_neg h]

theorem two_of {cs : List Value} (h : cs.length = 2) : ∃ a b, cs = [a, b] := by
  rcases cs with _ | ⟨a, _ | ⟨b, _ | ⟨c, l⟩⟩⟩
  · cases h
  · cases h
  · exact ⟨a, b, rfl⟩
  · simp at h
theorem three_of {cs : List Value} (h : cs.length = 3) : ∃ a b c, cs = [a, b, c] := by
  rcases cs with _ | ⟨a, _ | ⟨b, _ | ⟨c, _ | ⟨d, l⟩⟩⟩⟩
  · cases h
  · cases h
  · cases h
  · exact ⟨a, b, c, rfl⟩
  · simp at h
/-- A slice of things of a size, that came in. -/
theorem srow_gen {H : Type} {enc : TypeId × Value → H} {w : World} {sp : Nat → Bool} {α : Type} (f : α → List Value) (Q : α → Prop) (k : Nat) (hk : 0 < k) (hf : ∀ x, (f x).length = k) {T E : TypeId} (hu : Tryz.prog.underlying T = some (.slice E)) (hc : Tryz.prog.cellsOf E = k)
    (hE : ∀ (n : Nat) (cs : List Value) (y : DataW H × List MemPlace), DataW.trod enc Tryz.prog w 0 sp true n E cs = some y → ∃ x, cs = f x ∧ Q x)
    {fuel : Nat} {v : Value} {y : DataW H × List MemPlace} (h : DataW.trod enc Tryz.prog w 0 sp true fuel T [v] = some y) :
    ∃ l : List α, Row w (fun g => g < w.heap.size) v l.length (l.flatMap f) ∧ l.length ≤ maxLen ∧ ∀ x ∈ l, Q x := by
  rcases DataW.trod_slice hu h with ⟨h0, _⟩ | ⟨a, len, cap, elems, rest, n, _, h0, _, _, hl, hm, hlen, hel, _⟩
  · injection h0 with h0; subst h0
    exact ⟨[], .inl ⟨rfl, rfl, _, _, rfl⟩, by simp, by simp⟩
  · injection h0 with h0; subst h0
    have key : ∀ i, i < len → ∃ x : α, Q x ∧ ∀ j, j < k → w.cell? ((a.add (i * k)).add j) = (f x)[j]? := by
      intro i hi
      have g1 := hel i hi
      rw [List.getElem?_eq_getElem (show i < elems.length by omega)] at g1
      obtain ⟨cs', g2, g3⟩ := Option.bind_eq_some_iff.1 g1
      obtain ⟨x, g4, g5⟩ := hE n cs' _ g3
      rw [hc] at g2
      obtain ⟨_, _, g6⟩ := World.cells?_some g2
      exact ⟨x, g5, fun j hj => by rw [← g4]; exact g6 j hj⟩
    obtain ⟨l, hln, hp⟩ := gather key
    refine ⟨l, ?_, by omega, fun x hx => ?_⟩
    · rcases Nat.eq_zero_or_pos l.length with hz | hz
      · have hl0 := List.length_eq_zero_iff.1 hz
        subst hl0
        exact .inl ⟨rfl, rfl, a, cap, by rw [← hln]; rfl⟩
      · obtain ⟨x, hx⟩ : ∃ x, l[0]? = some x := ⟨l[0], by simp [hz]⟩
        have hc0 := (hp 0 x hx).2 0 hk
        rw [List.getElem?_eq_getElem (show 0 < (f x).length by rw [hf]; exact hk)] at hc0
        obtain ⟨b, o, ha, hb⟩ := cell_addr hc0
        have ha' : a = ⟨b, o, none⟩ := by
          have e : (a.add (0 * k)).add 0 = a := by unfold Addr.add; simp
          rw [e] at ha; exact ha
        subst ha'
        refine .inr ⟨hz, b, o, cap, by rw [hln], by omega, hb, hb, fun j u hu => ?_⟩
        obtain ⟨x, hx, hxu⟩ := flatMap_get hk hf hu
        have := (hp (j / k) x hx).2 (j % k) (Nat.mod_lt _ hk)
        rw [add_plain, add_plain] at this
        rw [show o + j = o + j / k * k + j % k by have := Nat.div_add_mod j k; rw [Nat.mul_comm] at this; omega, this, hxu]
    · obtain ⟨i, hi⟩ := List.getElem?_of_mem hx
      exact (hp i x hi).1

theorem hit_of_trod {H : Type} {enc : TypeId × Value → H} {w : World} {sp : Nat → Bool} (n : Nat) (cs : List Value) (y : DataW H × List MemPlace) (h : DataW.trod enc Tryz.prog w 0 sp true n 44 cs = some y) : ∃ x : Dx.Hit, cs = hitCells x ∧ True := by
  cases n with
  | zero => simp [DataW.trod] at h
  | succ n =>
  simp only [DataW.trod, Tryz.underlying44] at h
  split at h
  · rename_i hl
    rw [cellsH] at hl
    obtain ⟨c0, c1, rfl⟩ := two_of hl
    obtain ⟨xs, hm, _⟩ := Option.map_eq_some_iff.1 h
    simp [List.mapM_cons, cellsI, cellsS, Option.bind_eq_some_iff] at hm
    obtain ⟨d0, p0, h0, _, ⟨d1, p1, h1, _⟩, _⟩ := hm
    obtain ⟨s, e0, _, _⟩ := DataW.trod_string under_string h0
    obtain ⟨x, e1, _, _⟩ := DataW.trod_int under_int h1
    injection e0 with e0; injection e1 with e1
    subst e0 e1
    exact ⟨⟨s.data.toList, x⟩, rfl, trivial⟩
  · cases h
/-- Hits that came in. -/
theorem hrow_of_trod {H : Type} {enc : TypeId × Value → H} {w : World} {sp : Nat → Bool} {fuel : Nat} {v : Value} {y : DataW H × List MemPlace} (h : DataW.trod enc Tryz.prog w 0 sp true fuel 40 [v] = some y) :
    ∃ (l : List Dx.Hit) (a : Option Addr) (c : Nat), v = .slice a l.length c ∧ HRow w (fun g => g < w.heap.size) (.slice a l.length c) l := by
  obtain ⟨l, hr, _, _⟩ := srow_gen hitCells (fun _ => True) 2 (by decide) (fun _ => rfl) Tryz.underlying40 cellsH (fun n cs y h => hit_of_trod n cs y h) h
  obtain ⟨a, c, rfl⟩ := Row.shape hr
  exact ⟨l, a, c, rfl, hr⟩
end Go.Proofs.YtejlddimokmgjaaGreatDoor
