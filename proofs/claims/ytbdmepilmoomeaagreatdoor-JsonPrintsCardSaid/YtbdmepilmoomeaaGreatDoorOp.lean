/- A JSON VALUE THAT CAME IN: its reading as data gives its shape in memory. No walk. -/
import Derived.Test.YtbdmepilmoomeaaGreatDoorSh
import Derived.ProofKit
namespace Go.Proofs.YtbdmepilmoomeaaGreatDoor
open Go.RowKit

theorem cellsJ : Tryz.prog.cellsOf 26 = 5 := by kernel_rfl
theorem cellsI : Tryz.prog.cellsOf 3 = 1 := by kernel_rfl
theorem cellsB : Tryz.prog.cellsOf 4 = 1 := by kernel_rfl
theorem cellsS : Tryz.prog.cellsOf 9 = 1 := by kernel_rfl
theorem cellsNs : Tryz.prog.cellsOf 23 = 1 := by kernel_rfl
theorem cellsKs : Tryz.prog.cellsOf 24 = 1 := by kernel_rfl

theorem trod_J {H : Type} (enc : TypeId × Value → H) (w : World) (sp : Nat → Bool) (n : Nat) (cs : List Value) (y : DataW H × List MemPlace) (h : DataW.trod enc Tryz.prog w 0 sp true (n + 1) 26 cs = some y) :
    ∃ c0 c1 c2 c3 c4 y0 y1 y2 y3 y4, cs = [c0, c1, c2, c3, c4] ∧ DataW.trod enc Tryz.prog w 0 sp true n 3 [c0] = some y0 ∧ DataW.trod enc Tryz.prog w 0 sp true n 4 [c1] = some y1 ∧ DataW.trod enc Tryz.prog w 0 sp true n 9 [c2] = some y2 ∧ DataW.trod enc Tryz.prog w 0 sp true n 23 [c3] = some y3 ∧ DataW.trod enc Tryz.prog w 0 sp true n 24 [c4] = some y4 := by
  simp only [DataW.trod, Tryz.underlying26] at h
  split at h
  · rename_i hl
    rw [cellsJ] at hl
    obtain ⟨c0, c1, c2, c3, c4, rfl⟩ := five hl
    obtain ⟨xs, hm, _⟩ := Option.map_eq_some_iff.1 h
    simp [List.mapM_cons, cellsI, cellsB, cellsS, cellsNs, cellsKs, Option.bind_eq_some_iff] at hm
    obtain ⟨d0, p0, h0, _, ⟨d1, p1, h1, _, ⟨d2, p2, h2, _, ⟨d3, p3, h3, _, ⟨d4, p4, h4, _⟩, _⟩, _⟩, _⟩, _⟩ := hm
    exact ⟨c0, c1, c2, c3, c4, _, _, _, _, _, rfl, h0, h1, h2, h3, h4⟩
  · cases h

theorem gather {α : Type} : ∀ {n : Nat} {p : Nat → α → Prop}, (∀ i, i < n → ∃ x, p i x) → ∃ l : List α, l.length = n ∧ ∀ i x, l[i]? = some x → p i x
  | 0, _, _ => ⟨[], rfl, fun _ _ h => by simp at h⟩
  | n + 1, p, h => by
    obtain ⟨x0, h0⟩ := h 0 (by omega)
    obtain ⟨l, hl, hp⟩ := gather (n := n) (p := fun i => p (i + 1)) (fun i hi => h (i + 1) (by omega))
    refine ⟨x0 :: l, by simp [hl], fun i x hx => ?_⟩
    cases i with
    | zero => simp only [List.getElem?_cons_zero, Option.some.injEq] at hx; subst hx; exact h0
    | succ i => exact hp i x (by simpa using hx)

theorem flatten_get : ∀ {css : List (List Value)}, (∀ c ∈ css, c.length = 5) → ∀ {j : Nat} {u : Value}, css.flatten[j]? = some u → ∃ c, css[j / 5]? = some c ∧ c[j % 5]? = some u
  | [], _, j, u, h => by simp at h
  | c :: css, hc, j, u, h => by
    have h5 := hc c (by simp)
    rw [List.flatten_cons] at h
    rcases Nat.lt_or_ge j 5 with hj | hj
    · rw [List.getElem?_append_left (by omega)] at h
      refine ⟨c, ?_, ?_⟩
      · rw [Nat.div_eq_of_lt hj]; rfl
      · rw [Nat.mod_eq_of_lt hj]; exact h
    · rw [List.getElem?_append_right (by omega), h5] at h
      obtain ⟨c', h1, h2⟩ := flatten_get (fun x hx => hc x (by simp [hx])) h
      refine ⟨c', ?_, ?_⟩
      · rw [show j / 5 = (j - 5) / 5 + 1 by omega]; simpa using h1
      · rw [show j % 5 = (j - 5) % 5 by omega]; exact h2

theorem cell_addr {w : World} {a : Addr} {v : Value} (h : w.cell? a = some v) : ∃ b o, a = ⟨b, o, none⟩ ∧ b < w.heap.size := by
  have hb := World.block_lt_of_cell? w a h
  obtain ⟨b, o, sp⟩ := a
  unfold World.cell? at h
  simp only at h
  split at h
  · split at h
    · cases h
    · rename_i hs
      cases sp with
      | none => exact ⟨b, o, rfl, hb⟩
      | some x => simp at hs
  · cases h
theorem add_plain (b o i : Nat) : (⟨b, o, none⟩ : Addr).add i = ⟨b, o + i, none⟩ := by
  unfold Addr.add
  by_cases h : i = 0
  · subst h; simp
  · rw [if_neg h]
theorem under_int : Tryz.prog.underlying 3 = some (.int .i64) := Tryz.underlying3
theorem under_bool : Tryz.prog.underlying 4 = some .bool := Tryz.underlying4
theorem under_string : Tryz.prog.underlying 9 = some .string := Tryz.underlying9

theorem row_of_trod {H : Type} {enc : TypeId × Value → H} {w : World} {sp : Nat → Bool} {fuel : Nat} {v : Value} {y : DataW H × List MemPlace} (h : DataW.trod enc Tryz.prog w 0 sp true fuel 23 [v] = some y) :
    ∃ ns : List (List UInt8), Row w (fun g => g < w.heap.size) v ns.length (ns.map strV) ∧ ns.length ≤ maxLen ∧ ∀ n ∈ ns, n.length ≤ maxLen := by
  rcases DataW.trod_slice Tryz.underlying23 h with ⟨h0, _⟩ | ⟨a, len, cap, elems, rest, n, _, h0, _, _, hl, hm, hlen, hel, _⟩
  · injection h0 with h0; subst h0
    exact ⟨[], .inl ⟨rfl, rfl, _, _, rfl⟩, by simp, by simp⟩
  · injection h0 with h0; subst h0
    have key : ∀ i, i < len → ∃ x : List UInt8, w.cell? (a.add i) = some (strV x) ∧ x.length ≤ maxLen := by
      intro i hi
      have h1 := hel i hi
      rw [List.getElem?_eq_getElem (show i < elems.length by omega)] at h1
      obtain ⟨cs', h2, h3⟩ := Option.bind_eq_some_iff.1 h1
      obtain ⟨t, rfl, _, ht⟩ := DataW.trod_string under_string h3
      rw [cellsS, Nat.mul_one] at h2
      obtain ⟨_, _, h4⟩ := World.cells?_some h2
      have h5 := h4 0 (by omega)
      have htl : t.data.toList.length ≤ maxLen := by
        have e : t.data.toList.length = t.size := rfl
        rw [e]; exact ht
      refine ⟨t.data.toList, ?_, htl⟩
      have e : (a.add i).add 0 = a.add i := by unfold Addr.add; simp
      rw [e] at h5
      rw [h5]; rfl
    obtain ⟨ns, hns, hp⟩ := gather key
    refine ⟨ns, ?_, by omega, fun n hn => ?_⟩
    · rcases Nat.eq_zero_or_pos ns.length with hz | hz
      · refine .inl ⟨hz, ?_, a, cap, ?_⟩
        · rw [List.length_eq_zero_iff.1 hz]; rfl
        · rw [← hns, hz]
      · obtain ⟨x, hx⟩ : ∃ x, ns[0]? = some x := ⟨ns[0], by simp [hz]⟩
        obtain ⟨b, o, ha, hb⟩ := cell_addr (hp 0 x hx).1
        have ha' : a = ⟨b, o, none⟩ := by
          have e : a.add 0 = a := by unfold Addr.add; simp
          rw [e] at ha; exact ha
        subst ha'
        refine .inr ⟨hz, b, o, cap, by rw [hns], by omega, hb, hb, fun j u hu => ?_⟩
        rw [List.getElem?_map] at hu
        obtain ⟨x, hx, rfl⟩ := Option.map_eq_some_iff.1 hu
        have := (hp j x hx).1
        rw [add_plain] at this
        exact this
    · obtain ⟨i, hi⟩ := List.getElem?_of_mem hn
      exact (hp i n hi).2

theorem JsAt_of {w : World} {ok : Nat → Prop} : ∀ (l : List (Cx.J × List Value)), (∀ x ∈ l, JAt w ok x.1 x.2) → JsAt w ok (l.map (·.1)) (l.map (·.2))
  | [], _ => by unfold JsAt; rfl
  | x :: l, h => by
    show JsAt w ok (x.1 :: l.map (·.1)) (x.2 :: l.map (·.2))
    unfold JsAt
    exact ⟨x.2, l.map (·.2), rfl, h x (by simp), JsAt_of l fun y hy => h y (by simp [hy])⟩

theorem jat_of_trod {H : Type} (enc : TypeId × Value → H) (w : World) (sp : Nat → Bool) : ∀ (fuel : Nat) (cs : List Value) (y : DataW H × List MemPlace), DataW.trod enc Tryz.prog w 0 sp true fuel 26 cs = some y →
    ∃ v : Cx.J, JAt w (fun g => g < w.heap.size) v cs ∧ fit maxLen v
  | fuel, cs, y, h => by
    induction fuel using Nat.strongRecOn generalizing cs y with
    | ind fuel ih =>
    cases fuel with
    | zero => simp [DataW.trod] at h
    | succ fuel =>
    obtain ⟨c0, c1, c2, c3, c4, y0, y1, y2, y3, y4, rfl, h0, h1, h2, h3, h4⟩ := trod_J enc w sp fuel cs y h
    obtain ⟨k, e0, _, _⟩ := DataW.trod_int under_int h0
    obtain ⟨is, e1, _⟩ := DataW.trod_bool under_bool h1
    obtain ⟨t, e2, _, ht⟩ := DataW.trod_string under_string h2
    injection e0 with e0; injection e1 with e1; injection e2 with e2
    subst e0 e1 e2
    obtain ⟨ns, hrow, hnl, hn⟩ := row_of_trod h3
    have htl : t.data.toList.length ≤ maxLen := by
      have e : t.data.toList.length = t.size := rfl
      rw [e]; exact ht
    have hst : (Value.string t) = strV t.data.toList := rfl
    rcases DataW.trod_slice Tryz.underlying24 h4 with ⟨z0, _⟩ | ⟨a, len, cap, elems, rest, n, hfu, z0, _, _, hl, hm, hlen, hel, _⟩
    · injection z0 with z0; subst z0
      refine ⟨.mk k is t.data.toList ns [], ?_, ?_⟩
      · unfold JAt
        exact ⟨_, _, by rw [hst], hrow, [], by unfold JsAt; rfl, .inl ⟨rfl, rfl, _, _, rfl⟩⟩
      · unfold fit Cx.fit
        exact ⟨htl, hnl, hn, by simp, by unfold Cx.fitK; trivial⟩
    · injection z0 with z0; subst z0
      have key : ∀ i, i < len → ∃ x : Cx.J × List Value, JAt w (fun g => g < w.heap.size) x.1 x.2 ∧ fit maxLen x.1 ∧ ∀ j, j < 5 → w.cell? ((a.add (i * 5)).add j) = x.2[j]? := by
        intro i hi
        have g1 := hel i hi
        rw [List.getElem?_eq_getElem (show i < elems.length by omega)] at g1
        obtain ⟨cs', g2, g3⟩ := Option.bind_eq_some_iff.1 g1
        obtain ⟨v, g4, g5⟩ := ih n (by omega) cs' _ g3
        rw [cellsJ] at g2
        obtain ⟨_, _, g6⟩ := World.cells?_some g2
        exact ⟨(v, cs'), g4, g5, g6⟩
      obtain ⟨l, hln, hp⟩ := gather key
      have hall : ∀ x ∈ l, JAt w (fun g => g < w.heap.size) x.1 x.2 ∧ fit maxLen x.1 := fun x hx => by
        obtain ⟨i, hi⟩ := List.getElem?_of_mem hx
        exact ⟨(hp i x hi).1, (hp i x hi).2.1⟩
      have hlk : (l.map (·.1)).length = len := by simp [hln]
      refine ⟨.mk k is t.data.toList ns (l.map (·.1)), ?_, ?_⟩
      · unfold JAt
        refine ⟨_, _, by rw [hst], hrow, l.map (·.2), JsAt_of l (fun x hx => (hall x hx).1), ?_⟩
        rcases Nat.eq_zero_or_pos len with hz | hz
        · have hl0 : l = [] := List.length_eq_zero_iff.1 (by omega)
          subst hl0
          exact .inl ⟨rfl, rfl, a, cap, by rw [hz]⟩
        · obtain ⟨x, hx⟩ : ∃ x, l[0]? = some x := ⟨l[0], by simp [hln, hz]⟩
          have hc := (hp 0 x hx).2.2 0 (by omega)
          have h5 := (hp 0 x hx).1.length
          rw [List.getElem?_eq_getElem (show 0 < x.2.length by omega)] at hc
          obtain ⟨b, o, ha, hb⟩ := cell_addr hc
          have ha' : a = ⟨b, o, none⟩ := by
            have e : (a.add (0 * 5)).add 0 = a := by unfold Addr.add; simp
            rw [e] at ha; exact ha
          subst ha'
          refine .inr ⟨by rw [hlk]; exact hz, b, o, cap, by rw [hlk], by omega, hb, hb, fun j u hu => ?_⟩
          obtain ⟨c, hc1, hc2⟩ := flatten_get (fun c hc => by
            obtain ⟨x, hx, rfl⟩ := List.mem_map.1 hc
            exact (hall x hx).1.length) hu
          rw [List.getElem?_map] at hc1
          obtain ⟨x, hx, rfl⟩ := Option.map_eq_some_iff.1 hc1
          have := (hp (j / 5) x hx).2.2 (j % 5) (Nat.mod_lt _ (by omega))
          rw [add_plain, add_plain] at this
          rw [show o + j = o + j / 5 * 5 + j % 5 by omega, this, hc2]
      · unfold fit Cx.fit
        refine ⟨htl, hnl, hn, by omega, fitK_all fun k hk => ?_⟩
        obtain ⟨x, hx, rfl⟩ := List.mem_map.1 hk
        exact (hall x hx).2
end Go.Proofs.YtbdmepilmoomeaaGreatDoor
