/- OPS AND QUERIES THAT CAME IN: their reading as data gives their shape in memory. No walk. -/
import Derived.Test.YtejlddimokmgjaaGreatDoorZDro
import Derived.Test.YtejlddimokmgjaaGreatDoorGk
import Derived.Test.YtejlddimokmgjaaGreatDoorGi
import Derived.Test.YtejlddimokmgjaaGreatDoorGc
namespace Go.Proofs.YtejlddimokmgjaaGreatDoor
open Go.RowKit

theorem doc_of_trod {H : Type} {enc : TypeId × Value → H} {w : World} {sp : Nat → Bool} (n : Nat) (cs : List Value) (y : DataW H × List MemPlace) (h : DataW.trod enc Tryz.prog w 0 sp true n 42 cs = some y) :
    ∃ i t : List UInt8, cs = [.string ⟨i.toArray⟩, .string ⟨t.toArray⟩] ∧ i.length ≤ maxLen ∧ t.length ≤ maxLen := by
  cases n with
  | zero => simp [DataW.trod] at h
  | succ n =>
  simp only [DataW.trod, Tryz.underlying42] at h
  split at h
  · rename_i hl
    rw [cellsD] at hl
    obtain ⟨c0, c1, rfl⟩ := two_of hl
    obtain ⟨xs, hm, _⟩ := Option.map_eq_some_iff.1 h
    simp [List.mapM_cons, cellsS, Option.bind_eq_some_iff] at hm
    obtain ⟨d0, p0, h0, _, ⟨d1, p1, h1, _⟩, _⟩ := hm
    obtain ⟨s, e0, _, hs⟩ := DataW.trod_string under_string h0
    obtain ⟨x, e1, _, hx⟩ := DataW.trod_string under_string h1
    injection e0 with e0; injection e1 with e1
    subst e0 e1
    exact ⟨s.data.toList, x.data.toList, rfl, hs, hx⟩
  · cases h
theorem op_of_trod {H : Type} {enc : TypeId × Value → H} {w : World} {sp : Nat → Bool} (n : Nat) (cs : List Value) (y : DataW H × List MemPlace) (h : DataW.trod enc Tryz.prog w 0 sp true n 64 cs = some y) :
    ∃ x : Dx.Op, cs = opCells x ∧ (x.id.length ≤ maxLen ∧ x.text.length ≤ maxLen) := by
  cases n with
  | zero => simp [DataW.trod] at h
  | succ n =>
  simp only [DataW.trod, Tryz.underlying64] at h
  split at h
  · rename_i hl
    rw [cellsO] at hl
    obtain ⟨c0, c1, c2, rfl⟩ := three_of hl
    obtain ⟨xs, hm, _⟩ := Option.map_eq_some_iff.1 h
    simp [List.mapM_cons, cellsB, cellsD, Option.bind_eq_some_iff] at hm
    obtain ⟨d0, p0, h0, _, ⟨d1, p1, h1, _⟩, _⟩ := hm
    obtain ⟨x, e0, _⟩ := DataW.trod_bool under_bool h0
    obtain ⟨i, t, e1, hi, ht⟩ := doc_of_trod _ _ _ h1
    injection e0 with e0
    injection e1 with e1 e2
    injection e2 with e2
    subst e0 e1 e2
    exact ⟨⟨x, i, t⟩, rfl, hi, ht⟩
  · cases h
/-- Ops that came in. -/
theorem orow_of_trod {H : Type} {enc : TypeId × Value → H} {w : World} {sp : Nat → Bool} {fuel : Nat} {v : Value} {y : DataW H × List MemPlace} (h : DataW.trod enc Tryz.prog w 0 sp true fuel 31 [v] = some y) :
    ∃ (l : List Dx.Op) (a : Option Addr) (c : Nat), v = .slice a l.length c ∧ ORow w (fun g => g < w.heap.size) (.slice a l.length c) l ∧ ∀ o ∈ l, o.id.length ≤ maxLen ∧ o.text.length ≤ maxLen := by
  obtain ⟨l, hr, _, hm⟩ := srow_gen opCells (fun x => x.id.length ≤ maxLen ∧ x.text.length ≤ maxLen) 3 (by decide) (fun _ => rfl) Tryz.underlying31 cellsO (fun n cs y h => op_of_trod n cs y h) h
  obtain ⟨a, c, rfl⟩ := Row.shape hr
  exact ⟨l, a, c, rfl, hr, hm⟩

theorem cellsQ : Tryz.prog.cellsOf 26 = 5 := by kernel_rfl
theorem cellsQs : Tryz.prog.cellsOf 24 = 1 := by kernel_rfl
/-- A slice of things of a size, that came in. -/
theorem srow_lt {H : Type} {enc : TypeId × Value → H} {w : World} {sp : Nat → Bool} {α : Type} (f : α → List Value) (Q : α → Prop) (k : Nat) (hk : 0 < k) (hf : ∀ x, (f x).length = k) {T E : TypeId} (hu : Tryz.prog.underlying T = some (.slice E)) (hc : Tryz.prog.cellsOf E = k)
    {fuel : Nat} (hE : ∀ (n : Nat) (cs : List Value) (y : DataW H × List MemPlace), n < fuel → DataW.trod enc Tryz.prog w 0 sp true n E cs = some y → ∃ x, cs = f x ∧ Q x)
    {v : Value} {y : DataW H × List MemPlace} (h : DataW.trod enc Tryz.prog w 0 sp true fuel T [v] = some y) :
    ∃ l : List α, Row w (fun g => g < w.heap.size) v l.length (l.flatMap f) ∧ l.length ≤ maxLen ∧ ∀ x ∈ l, Q x := by
  rcases DataW.trod_slice hu h with ⟨h0, _⟩ | ⟨a, len, cap, elems, rest, n, hfu, h0, _, _, hl, hm, hlen, hel, _⟩
  · injection h0 with h0; subst h0
    exact ⟨[], .inl ⟨rfl, rfl, _, _, rfl⟩, by simp, by simp⟩
  · injection h0 with h0; subst h0
    have key : ∀ i, i < len → ∃ x : α, Q x ∧ ∀ j, j < k → w.cell? ((a.add (i * k)).add j) = (f x)[j]? := by
      intro i hi
      have g1 := hel i hi
      rw [List.getElem?_eq_getElem (show i < elems.length by omega)] at g1
      obtain ⟨cs', g2, g3⟩ := Option.bind_eq_some_iff.1 g1
      obtain ⟨x, g4, g5⟩ := hE n cs' _ (by omega) g3
      rw [hc] at g2
      obtain ⟨_, _, g6⟩ := World.cells?_some g2
      exact ⟨x, g5, fun j hj => by rw [← g4]; exact g6 j hj⟩
    obtain ⟨l, hln, hp⟩ := gather key
    refine ⟨l, ?_, by omega, fun x hx => ?_⟩
    · rcases Nat.eq_zero_or_pos l.length with hz | hz
      · have hl0 := List.length_eq_zero_iff.1 hz
        subst hl0
        exact .inl ⟨rfl, rfl, a, cap, by rw [← hln]; rfl⟩
      · obtain ⟨x, hx⟩ : ∃ x, l[0]? = some x := ⟨l[0], by simp [hz]⟩
        have hc0 := (hp 0 x hx).2 0 hk
        rw [List.getElem?_eq_getElem (show 0 < (f x).length by rw [hf]; exact hk)] at hc0
        obtain ⟨b, o, ha, hb⟩ := cell_addr hc0
        have ha' : a = ⟨b, o, none⟩ := by
          have e : (a.add (0 * k)).add 0 = a := by unfold Addr.add; simp
          rw [e] at ha; exact ha
        subst ha'
        refine .inr ⟨hz, b, o, cap, by rw [hln], by omega, hb, hb, fun j u hu => ?_⟩
        obtain ⟨x, hx, hxu⟩ := flatMap_get hk hf hu
        have := (hp (j / k) x hx).2 (j % k) (Nat.mod_lt _ hk)
        rw [add_plain, add_plain] at this
        rw [show o + j = o + j / k * k + j % k by have := Nat.div_add_mod j k; rw [Nat.mul_comm] at this; omega, this, hxu]
    · obtain ⟨i, hi⟩ := List.getElem?_of_mem hx
      exact (hp i x hi).1


theorem QysAt_of {w : World} {ok : Nat → Prop} : ∀ (l : List (Dx.Qy × List Value)), (∀ x ∈ l, QyAt w ok x.1 x.2) → QysAt w ok (l.map (·.1)) (l.map (·.2))
  | [], _ => by unfold QysAt; rfl
  | x :: l, h => by
    show QysAt w ok (x.1 :: l.map (·.1)) (x.2 :: l.map (·.2))
    unfold QysAt
    exact ⟨x.2, l.map (·.2), rfl, h x (by simp), QysAt_of l fun y hy => h y (by simp [hy])⟩
theorem qfitK_all {L : Nat} : ∀ {l : List Dx.Qy}, (∀ q ∈ l, Dx.qfit L q) → Dx.qfitK L l
  | [], _ => by simp [Dx.qfitK]
  | q :: l, h => by
    unfold Dx.qfitK
    exact ⟨h q (by simp), qfitK_all fun x hx => h x (by simp [hx])⟩
theorem qrow_of_trod {H : Type} {enc : TypeId × Value → H} {w : World} {sp : Nat → Bool} {fuel : Nat}
    (ih : ∀ (n : Nat) (cs : List Value) (y : DataW H × List MemPlace), n < fuel → DataW.trod enc Tryz.prog w 0 sp true n 26 cs = some y → ∃ q : Dx.Qy, QyAt w (fun g => g < w.heap.size) q cs ∧ Dx.qfit maxLen q)
    {v : Value} {y : DataW H × List MemPlace} (h : DataW.trod enc Tryz.prog w 0 sp true fuel 24 [v] = some y) :
    ∃ l : List Dx.Qy, (∃ css : List (List Value), QysAt w (fun g => g < w.heap.size) l css ∧ Row w (fun g => g < w.heap.size) v l.length css.flatten) ∧ Dx.qfitK maxLen l := by
  obtain ⟨l, hr, _, hm⟩ := srow_lt (α := { x : Dx.Qy × List Value // x.2.length = 5 }) (fun x => x.1.2) (fun x => QyAt w (fun g => g < w.heap.size) x.1.1 x.1.2 ∧ Dx.qfit maxLen x.1.1) 5 (by decide) (fun x => x.2) Tryz.underlying24 cellsQ (fun n cs y hn h => by
    obtain ⟨q, h1, h2⟩ := ih n cs y hn h
    exact ⟨⟨(q, cs), h1.length⟩, rfl, h1, h2⟩) h
  have e1 : (l.map (·.1)).map (·.1) = l.map (fun x => x.1.1) := by simp
  refine ⟨l.map (fun x => x.1.1), ⟨l.map (fun x => x.1.2), ?_, ?_⟩, qfitK_all fun q hq => ?_⟩
  · have := QysAt_of (w := w) (ok := fun g => g < w.heap.size) (l.map (·.1)) (fun x hx => by
      obtain ⟨z, hz, rfl⟩ := List.mem_map.1 hx
      exact (hm z hz).1)
    simpa [Function.comp_def] using this
  · rw [List.length_map, ← List.flatMap_def]
    exact hr
  · obtain ⟨z, hz, rfl⟩ := List.mem_map.1 hq
    exact (hm z hz).2
/-- A query that came in. -/
theorem q_of_trod {H : Type} (enc : TypeId × Value → H) (w : World) (sp : Nat → Bool) : ∀ (fuel : Nat) (cs : List Value) (y : DataW H × List MemPlace), DataW.trod enc Tryz.prog w 0 sp true fuel 26 cs = some y →
    ∃ q : Dx.Qy, QyAt w (fun g => g < w.heap.size) q cs ∧ Dx.qfit maxLen q
  | fuel, cs, y, h => by
    induction fuel using Nat.strongRecOn generalizing cs y with
    | ind fuel ih =>
    cases fuel with
    | zero => simp [DataW.trod] at h
    | succ fuel =>
    have ih2 : ∀ (n : Nat) (cs : List Value) (y : DataW H × List MemPlace), n < fuel → DataW.trod enc Tryz.prog w 0 sp true n 26 cs = some y → ∃ q : Dx.Qy, QyAt w (fun g => g < w.heap.size) q cs ∧ Dx.qfit maxLen q := fun n cs y hn h => ih n (by omega) cs y h
    simp only [DataW.trod, Tryz.underlying26] at h
    split at h
    · rename_i hl
      rw [cellsQ] at hl
      obtain ⟨c0, c1, c2, c3, c4, rfl⟩ := five hl
      obtain ⟨xs, hm, _⟩ := Option.map_eq_some_iff.1 h
      simp [List.mapM_cons, cellsI, cellsS, cellsQs, Option.bind_eq_some_iff] at hm
      obtain ⟨d0, p0, h0, _, ⟨d1, p1, h1, _, ⟨d2, p2, h2, _, ⟨d3, p3, h3, _, ⟨d4, p4, h4, _⟩, _⟩, _⟩, _⟩, _⟩ := hm
      obtain ⟨k, e0, _, _⟩ := DataW.trod_int under_int h0
      obtain ⟨t, e1, _, ht⟩ := DataW.trod_string under_string h1
      injection e0 with e0; injection e1 with e1
      subst e0 e1
      obtain ⟨a, ra, fa⟩ := qrow_of_trod ih2 h2
      obtain ⟨b, rb, fb⟩ := qrow_of_trod ih2 h3
      obtain ⟨c, rc, fc⟩ := qrow_of_trod ih2 h4
      refine ⟨.mk k t.data.toList a b c, ?_, ?_⟩
      · unfold QyAt
        exact ⟨c2, c3, c4, rfl, ra, rb, rc⟩
      · unfold Dx.qfit
        exact ⟨ht, fa, fb, fc⟩
    · cases h
end Go.Proofs.YtejlddimokmgjaaGreatDoor
