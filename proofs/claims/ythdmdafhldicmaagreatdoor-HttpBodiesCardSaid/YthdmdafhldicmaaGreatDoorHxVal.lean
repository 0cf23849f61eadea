/- The last value of a name, sought from the end. -/
import Derived.Test.YthdmdafhldicmaaGreatDoorHxBase
namespace Hx

/-- The last value of a name, among the first so many. -/
def valueN (ns vs : List Bytes) (n : Bytes) : Nat → Bytes
  | 0 => []
  | k + 1 => if ns[k]? = some n then vs.getD k [] else valueN ns vs n k

theorem mem_take_succ {ns : List Bytes} {n : Bytes} {k : Nat} : n ∈ ns.take (k + 1) ↔ n ∈ ns.take k ∨ ns[k]? = some n := by
  rw [List.take_add_one, List.mem_append]
  refine or_congr Iff.rfl ?_
  cases ns[k]? with
  | none => simp
  | some x => simp [eq_comm]
theorem valueN_cons (m v : Bytes) (ns vs : List Bytes) (n : Bytes) : ∀ k, valueN (m :: ns) (v :: vs) n (k + 1) = if n ∈ ns.take k then valueN ns vs n k else if m = n then v else []
  | 0 => by simp [valueN]
  | k + 1 => by
    rw [valueN, List.getElem?_cons_succ, valueN_cons m v ns vs n k]
    by_cases h : ns[k]? = some n
    · rw [if_pos h, if_pos (mem_take_succ.2 (.inr h)), valueN, if_pos h]
      simp [List.getD]
    · rw [if_neg h]
      by_cases h2 : n ∈ ns.take k
      · rw [if_pos h2, if_pos (mem_take_succ.2 (.inl h2)), valueN, if_neg h]
      · have h4 : ¬ n ∈ ns.take (k + 1) := fun h3 => by
          rcases mem_take_succ.1 h3 with h3 | h3
          · exact h2 h3
          · exact h h3
        rw [if_neg h2, if_neg h4]
theorem lastOf_eq (n : Bytes) : ∀ (ns vs : List Bytes), vs.length = ns.length → lastOf ns vs n = valueN ns vs n ns.length
  | [], vs, _ => by simp [lastOf, valueN]
  | m :: ns, [], h => by simp at h
  | m :: ns, v :: vs, h => by
    have h' : vs.length = ns.length := by simpa using h
    rw [List.length_cons, valueN_cons, List.take_length]
    unfold lastOf
    by_cases hm : n ∈ ns
    · rw [if_pos hm, if_pos hm, List.tail_cons, lastOf_eq n ns vs h']
    · rw [if_neg hm, if_neg hm, List.headD_cons]
theorem value_eq {f : F} (h : f.values.length = f.names.length) (n : Bytes) : f.value n = valueN f.names f.values n f.names.length := lastOf_eq n _ _ h
theorem valueN_len {ns vs : List Bytes} {L : Nat} (h : ∀ v ∈ vs, v.length ≤ L) (n : Bytes) : ∀ k, (valueN ns vs n k).length ≤ L
  | 0 => by simp [valueN]
  | k + 1 => by
    unfold valueN
    split
    · rw [List.getD]
      cases hv : vs[k]? with
      | none => simp
      | some x => exact h x (List.mem_of_getElem? hv)
    · exact valueN_len h n k

theorem fieldsN_succ (s : Bytes) (most n : Nat) (f : F) (i : Nat) : fieldsN s most (n + 1) f i =
    (if (line s i most).2.1 ≠ 200 then (none, (line s i most).2.1, (line s i most).2.2)
     else if (line s i most).1 = [] then (some f, 200, (line s i most).2.2)
     else match field f (line s i most).1 with
       | none => (none, 400, (line s i most).2.2)
       | some g => fieldsN s most n g (line s i most).2.2) := by
  conv => lhs; unfold fieldsN
  obtain ⟨l, e, j⟩ := line s i most
  rfl
theorem field_names {f g : F} {l : Bytes} (h : field f l = some g) : g.names.length = f.names.length + 1 ∧ g.values.length = f.values.length + 1 := by
  unfold field at h
  split at h
  · injection h with h
    subst h
    simp
  · cases h
end Hx
