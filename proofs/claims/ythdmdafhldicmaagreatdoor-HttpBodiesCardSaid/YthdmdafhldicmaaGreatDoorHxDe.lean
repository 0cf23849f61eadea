/- A target's text: percent signs and two digits. -/
import Derived.Test.YthdmdafhldicmaaGreatDoorHxBase
namespace Hx
/-- The bytes that a target's text stands for; none: a percent sign lacks its digits. -/
def decode : Bytes → Option Bytes
  | [] => some []
  | c :: t =>
    if c = 37 then
      match t with
      | a :: b :: r =>
        match hexv a, hexv b with
        | some x, some y => (decode r).map fun z => UInt8.ofNat (x * 16 + y) :: z
        | _, _ => none
      | _ => none
    else (decode t).map fun z => c :: z
theorem decode_nil : decode [] = some [] := by rw [decode]
theorem decode_ne {c : UInt8} {t : Bytes} (h : c ≠ 37) : decode (c :: t) = (decode t).map fun z => c :: z := by
  rw [decode.eq_def]; simp only [if_neg h]
theorem decode_two (a b : UInt8) (r : Bytes) : decode (37 :: a :: b :: r) = match hexv a, hexv b with | some x, some y => (decode r).map fun z => UInt8.ofNat (x * 16 + y) :: z | _, _ => none := by
  rw [decode.eq_def]; simp only [if_pos]
theorem decode_short {t : Bytes} (h : t.length < 2) : decode (37 :: t) = none := by
  rw [decode.eq_def]; simp only [if_pos]
  cases t with
  | nil => rfl
  | cons a t =>
    cases t with
    | nil => rfl
    | cons b t => simp only [List.length_cons] at h; omega
/-- Past the bytes that are no percent sign. -/
theorem decode_app {u : Bytes} (h : (37 : UInt8) ∉ u) (t : Bytes) : decode (u ++ t) = (decode t).map fun z => u ++ z := by
  induction u with
  | nil => simp
  | cons c u ih =>
    simp only [List.mem_cons, not_or] at h
    rw [List.cons_append, decode_ne (Ne.symm h.1), ih h.2]
    simp [Option.map_map, Function.comp_def]
theorem ahead_not_mem {c : UInt8} (s : Bytes) : c ∉ ahead c s := by
  unfold ahead
  induction s with
  | nil => simp
  | cons a s ih =>
    by_cases h : a = c
    · subst h; simp
    · rw [List.idxOf_cons, show (a == c) = false by simpa using h, cond_false, List.take_succ_cons, List.mem_cons, not_or]
      exact ⟨Ne.symm h, ih⟩
theorem split_at {c : UInt8} {s : Bytes} (h : c ∈ s) : s = ahead c s ++ c :: behind c s := by
  unfold ahead behind
  have hl := idx_lt h
  conv => lhs; rw [← List.take_append_drop (s.idxOf c) s, List.drop_eq_getElem_cons hl]
  rw [List.getElem_idxOf hl]
/-- The text behind a piece that was cut: what stands ahead, what behind, was there a percent sign? -/
def decTail (acc rest : Bytes) (ok : Bool) : Option Bytes := if ok then (decode (37 :: rest)).map fun z => acc ++ z else some acc
theorem decTail_cut (acc s : Bytes) : (decode s).map (fun z => acc ++ z) = decTail (acc ++ ahead 37 s) (behind 37 s) (decide ((37 : UInt8) ∈ s)) := by
  unfold decTail
  by_cases h : (37 : UInt8) ∈ s
  · rw [decide_eq_true h, if_pos rfl]
    conv => lhs; rw [split_at h, decode_app (ahead_not_mem s)]
    simp [Option.map_map, Function.comp_def]
  · rw [decide_eq_false h, if_neg (by decide), ahead_not h]
    have := decode_app h []
    rw [List.append_nil] at this
    rw [this, decode_nil]
    simp
theorem decTail_start (s : Bytes) : decode s = decTail (ahead 37 s) (behind 37 s) (decide ((37 : UInt8) ∈ s)) := by
  have := decTail_cut [] s
  simpa using this
theorem decTail_short {acc rest : Bytes} (h : rest.length < 2) : decTail acc rest true = none := by
  unfold decTail; rw [if_pos rfl, decode_short h]; rfl
/-- Two digits' number, as the reader of numbers has it. -/
theorem hexN_two (a b : UInt8) : hexN [a, b] 0 = match hexv a, hexv b with | some x, some y => some (x * 16 + y) | _, _ => none := by
  unfold hexN
  cases hexv a with
  | none => rfl
  | some x =>
    simp only
    unfold hexN
    cases hexv b with
    | none => rfl
    | some y => simp [hexN]
theorem decTail_bad {acc : Bytes} {a b : UInt8} {r : Bytes} (h : hexN [a, b] 0 = none) : decTail acc (a :: b :: r) true = none := by
  unfold decTail
  rw [if_pos rfl, decode_two]
  rw [hexN_two] at h
  cases ha : hexv a with
  | none => rfl
  | some x =>
    cases hb : hexv b with
    | none => rfl
    | some y => rw [ha, hb] at h; cases h
theorem decTail_step {acc : Bytes} {a b : UInt8} {r : Bytes} {v : Nat} (h : hexN [a, b] 0 = some v) :
    decTail acc (a :: b :: r) true = decTail (acc ++ [UInt8.ofNat v] ++ ahead 37 r) (behind 37 r) (decide ((37 : UInt8) ∈ r)) := by
  rw [← decTail_cut]
  unfold decTail
  rw [if_pos rfl, decode_two]
  rw [hexN_two] at h
  cases ha : hexv a with
  | none => rw [ha] at h; cases h
  | some x =>
    cases hb : hexv b with
    | none => rw [ha, hb] at h; cases h
    | some y =>
      rw [ha, hb] at h
      injection h with h
      subst h
      simp [Option.map_map, Function.comp_def]
theorem hexv_lt {c : UInt8} {x : Nat} (h : hexv c = some x) : x < 16 := by
  unfold hexv at h
  split at h
  · injection h with h; omega
  · split at h
    · injection h with h; omega
    · split at h
      · injection h with h; omega
      · cases h
theorem hexN_lt {a b : UInt8} {v : Nat} (h : hexN [a, b] 0 = some v) : v < 256 := by
  rw [hexN_two] at h
  cases ha : hexv a with
  | none => rw [ha] at h; cases h
  | some x =>
    cases hb : hexv b with
    | none => rw [ha, hb] at h; cases h
    | some y =>
      rw [ha, hb] at h
      injection h with h
      have := hexv_lt ha; have := hexv_lt hb
      omega
theorem decode_len : ∀ (n : Nat) (s : Bytes) (z : Bytes), s.length ≤ n → decode s = some z → z.length ≤ s.length
  | _, [], z, _, h => by rw [decode_nil] at h; injection h with h; subst h; simp
  | 0, c :: t, z, hn, h => by simp at hn
  | n + 1, c :: t, z, hn, h => by
    by_cases hc : c = 37
    · subst hc
      match t, h, hn with
      | [], h, _ => rw [decode_short (by simp)] at h; cases h
      | [a], h, _ => rw [decode_short (by simp)] at h; cases h
      | a :: b :: r, h, hn =>
        rw [decode_two] at h
        cases ha : hexv a with
        | none => rw [ha] at h; cases h
        | some x =>
          cases hb : hexv b with
          | none => rw [ha, hb] at h; cases h
          | some y =>
            rw [ha, hb] at h
            simp only [Option.map_eq_some_iff] at h
            obtain ⟨z', hz, rfl⟩ := h
            have := decode_len n r z' (by simp at hn; omega) hz
            simp; omega
    · rw [decode_ne hc] at h
      simp only [Option.map_eq_some_iff] at h
      obtain ⟨z', hz, rfl⟩ := h
      have := decode_len n t z' (by simp at hn; omega) hz
      simp; omega
end Hx
