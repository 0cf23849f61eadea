/- The plain model of package dsl: searches, bulks; functions on lists of bytes; no program in sight. Searches for all, with a page; bulks behind one another. What is read of a body is read of its JSON written anew. Queries as JSON: what is written of a right query is read as it was; lines of ops. What is right of a value is right of its parts. How large a query is that a value says. -/
import Derived.Test.YtejlddimokmgjaaGreatDoorKb
namespace Dx
open Cx (Bytes J)

/-- A query as data. -/
inductive Qy where
  | mk (kind : Int) (text : Bytes) (must should not : List Qy)

def tMust : Bytes := [109, 117, 115, 116]
def tShould : Bytes := [115, 104, 111, 117, 108, 100]
def tNot : Bytes := [109, 117, 115, 116, 95, 110, 111, 116]
def tAll : Bytes := [109, 97, 116, 99, 104, 95, 97, 108, 108]
def tTerm : Bytes := [116, 101, 114, 109]
def tPhrase : Bytes := [112, 104, 114, 97, 115, 101]
def tPrefix : Bytes := [112, 114, 101, 102, 105, 120]
def tBool : Bytes := [98, 111, 111, 108]
def tQuery : Bytes := [113, 117, 101, 114, 121]
def tFrom : Bytes := [102, 114, 111, 109]
def tSize : Bytes := [115, 105, 122, 101]
def tId : Bytes := [105, 100]
def tText : Bytes := [116, 101, 120, 116]
def tDelete : Bytes := [100, 101, 108, 101, 116, 101]
def tIndex : Bytes := [105, 110, 100, 101, 120]

/-- An object that has no names but some. -/
def only (v : J) (l : List Bytes) : Bool := decide (v.kind = 6) && v.names.all fun n => decide (n ∈ l)
/-- The name and the value of an object that has just one. -/
def single (v : J) : Option (Bytes × J) := if v.kind = 6 ∧ v.kids.length = 1 then some (v.names.headD [], v.kids.headD Cx.nil) else none

/-- A list's queries, as some reader of one has them. -/
def allQ (f : J → Option Qy) : List J → Option (List Qy)
  | [] => some []
  | k :: l => match f k, allQ f l with
    | some q, some r => some (q :: r)
    | _, _ => none
/-- A list of a name: nothing, if it is not there. -/
def listQ (f : J → Option Qy) (v : J) (n : Bytes) : Option (List Qy) :=
  match Cx.get v n with
  | none => some []
  | some k => match allQ f k.kids with
    | some l => if k.kind = 5 then some l else none
    | none => none
def listsQ (f : J → Option Qy) (v : J) : Option Qy :=
  match listQ f v tMust, listQ f v tShould, listQ f v tNot with
  | some a, some b, some c => some (.mk 5 [] a b c)
  | _, _, _ => none
/-- A query, of JSON. The first number: fuel. -/
def node : Nat → J → Option Qy
  | 0, _ => none
  | n + 1, v => match single v with
    | none => none
    | some (m, k) =>
      if m = tAll then (if only k [] = true then some (.mk 1 [] [] [] []) else none)
      else if m = tTerm then (if k.kind = 4 then some (.mk 2 k.text [] [] []) else none)
      else if m = tPhrase then (if k.kind = 4 then some (.mk 3 k.text [] [] []) else none)
      else if m = tPrefix then (if k.kind = 4 then some (.mk 4 k.text [] [] []) else none)
      else if m = tBool ∧ only k [tMust, tShould, tNot] = true then listsQ (node n) k
      else none

theorem allQ_congr {f g : J → Option Qy} : ∀ {l : List J}, (∀ x, x ∈ l → f x = g x) → allQ f l = allQ g l
  | [], _ => rfl
  | k :: l, h => by
    simp only [allQ]
    rw [h k (by simp), allQ_congr (fun x hx => h x (by simp [hx]))]
theorem get_mem {v k : J} {n : Bytes} (h : Cx.get v n = some k) : k ∈ v.kids := by
  cases v with
  | mk kd is t ns ks =>
    have h : (if kd = 6 ∧ n ∈ ns then ks[ns.idxOf n]? else none) = some k := h
    by_cases hc : kd = 6 ∧ n ∈ ns
    · rw [if_pos hc] at h
      exact (List.mem_of_getElem? h : k ∈ ks)
    · rw [if_neg hc] at h; simp at h
theorem nodesK_mem {k : J} : ∀ {l : List J}, k ∈ l → Cx.nodes k ≤ Cx.nodesK l
  | [], h => by simp at h
  | a :: l, h => by
    simp only [Cx.nodesK]
    rcases List.mem_cons.1 h with rfl | h
    · omega
    · have := nodesK_mem h; omega
theorem nodes_kid {v k : J} (h : k ∈ v.kids) : Cx.nodes k < Cx.nodes v := by
  cases v with
  | mk kd is t ns ks =>
    have := nodesK_mem (l := ks) h
    simp only [Cx.nodes]; omega
theorem single_kid {v k : J} {m : Bytes} (h : single v = some (m, k)) : k ∈ v.kids := by
  unfold single at h
  split at h
  · rename_i hc
    injection h with h; injection h with _ h
    cases hk : v.kids with
    | nil => simp [hk] at hc
    | cons a l => rw [hk] at h; simp at h; simp [h]
  · simp at h
theorem listQ_congr {f g : J → Option Qy} {v : J} {n : Bytes} (h : ∀ k x, k ∈ v.kids → x ∈ k.kids → f x = g x) : listQ f v n = listQ g v n := by
  unfold listQ
  cases hg : Cx.get v n with
  | none => rfl
  | some k =>
    simp only
    rw [allQ_congr (fun x hx => h k x (get_mem hg) hx)]
theorem listsQ_congr {f g : J → Option Qy} {v : J} (h : ∀ k x, k ∈ v.kids → x ∈ k.kids → f x = g x) : listsQ f v = listsQ g v := by
  unfold listsQ
  rw [listQ_congr h, listQ_congr h, listQ_congr h]
/-- Fuel enough is fuel enough. -/
theorem node_fuel : ∀ {n m : Nat} {v : J}, Cx.nodes v < n → Cx.nodes v < m → node n v = node m v
  | 0, _, _, h, _ => by omega
  | _, 0, _, _, h => by omega
  | n + 1, m + 1, v, h, h' => by
    unfold node
    cases hs : single v with
    | none => rfl
    | some p =>
      obtain ⟨nm, k⟩ := p
      have hk := nodes_kid (single_kid hs)
      simp only
      rw [listsQ_congr (f := node n) (g := node m) (v := k) (fun a x ha hx => ?_)]
      have h1 := nodes_kid ha; have h2 := nodes_kid hx
      exact node_fuel (by omega) (by omega)
/-- A query, of JSON. -/
def nodeQ (v : J) : Option Qy := node (Cx.nodes v + 1) v

mutual
def count : Qy → Nat
  | .mk _ _ a b c => 1 + countK a + countK b + countK c
def countK : List Qy → Nat
  | [] => 0
  | q :: l => count q + countK l
end
mutual
def deep : Qy → Nat
  | .mk _ _ a b c => 1 + max (deepK a) (max (deepK b) (deepK c))
def deepK : List Qy → Nat
  | [] => 0
  | q :: l => max (deep q) (deepK l)
end
def nodeOk (k : Int) (t : Bytes) (n : Nat) : Bool :=
  if k = 2 ∨ k = 3 ∨ k = 4 then decide (n = 0) && decide (t.length ≤ 200) && Cx.valid t
  else if k = 1 then decide (n = 0) && decide (t = [])
  else if k = 5 then decide (t = [])
  else false
mutual
def nodesOk : Qy → Bool
  | .mk k t a b c => nodesOkK a && nodesOkK b && nodesOkK c && nodeOk k t (a.length + b.length + c.length)
def nodesOkK : List Qy → Bool
  | [] => true
  | q :: l => nodesOk q && nodesOkK l
end
def right (q : Qy) : Bool := decide (count q ≤ 100) && decide (deep q ≤ 20) && nodesOk q

/-- A number of a name. -/
def number (v : J) (n : Bytes) (none most : Int) : Option Int :=
  match Cx.get v n with
  | Option.none => some none
  | some k => match Cx.toInt k with
    | some x => if 0 ≤ x ∧ x ≤ most then some x else Option.none
    | Option.none => Option.none
/-- A search: the query, from, size; or an error: 7 (form), 18 (query). -/
def search (s : Bytes) : Except Nat (Qy × Int × Int) :=
  match Cx.parse s with
  | .error _ => .error 7
  | .ok v => match number v tFrom 0 10000, number v tSize 10 100, Cx.get v tQuery with
    | some a, some b, some k => match nodeQ k with
      | some q => if only v [tQuery, tFrom, tSize] = true ∧ right q = true then .ok (q, a, b) else .error 18
      | none => .error 18
    | _, _, _ => .error 18

/-- An op: is it to delete, the document's name, its text. -/
structure Op where
  del : Bool
  id : Bytes
  text : Bytes
def textOf (v : J) (n : Bytes) : Option Bytes := match Cx.get v n with | some k => if k.kind = 4 then some k.text else none | none => none
def op (v : J) : Option Op :=
  match single v with
  | none => none
  | some (m, k) => match textOf k tId with
    | none => none
    | some i =>
      if m = tDelete then (if only k [tId] = true then some ⟨true, i, []⟩ else none)
      else match textOf k tText with
        | none => none
        | some t => if m = tIndex ∧ only k [tId, tText] = true then some ⟨false, i, t⟩ else none
/-- The lines between line feeds. -/
def linesN : Nat → Bytes → List Bytes
  | 0, s => [s]
  | n + 1, s => if 10 ∈ s then s.take (s.idxOf 10) :: linesN n (s.drop (s.idxOf 10 + 1)) else [s]
def lines (s : Bytes) : List Bytes := linesN (s.count 10) s
def bulkL : List Bytes → Except Nat (List Op)
  | [] => .ok []
  | l :: r =>
    if l = [] ∨ l = [13] then bulkL r
    else match Cx.parse l with
      | .error _ => .error 7
      | .ok v => match op v with
        | none => .error 18
        | some o => match bulkL r with
          | .error e => .error e
          | .ok t => .ok (o :: t)
def bulk (s : Bytes) : Except Nat (List Op) := bulkL (lines s)
def textB (s : Bytes) : Except Nat Bytes :=
  match Cx.parse s with
  | .error _ => .error 7
  | .ok v => if v.kind = 4 then .ok v.text else .error 18
end Dx
namespace Dx
open Cx (Bytes J)
/-! ### Bulks -/
theorem linesN_succ {n : Nat} {s : Bytes} (h : (10 : UInt8) ∈ s) : linesN (n + 1) s = s.take (s.idxOf 10) :: linesN n (s.drop (s.idxOf 10 + 1)) := by
  conv => lhs; unfold linesN
  rw [if_pos h]
end Dx
namespace Dx
open Cx (Bytes J)
end Dx
namespace Dx
open Cx (Bytes J)
def wordJ (s : Bytes) : J := .mk 4 false s [] []
/-- A query, one step unfolded. -/
theorem nodeQ_step (v : J) : nodeQ v = match single v with
    | none => none
    | some (m, k) =>
      if m = tAll then (if only k [] = true then some (.mk 1 [] [] [] []) else none)
      else if m = tTerm then (if k.kind = 4 then some (.mk 2 k.text [] [] []) else none)
      else if m = tPhrase then (if k.kind = 4 then some (.mk 3 k.text [] [] []) else none)
      else if m = tPrefix then (if k.kind = 4 then some (.mk 4 k.text [] [] []) else none)
      else if m = tBool ∧ only k [tMust, tShould, tNot] = true then listsQ nodeQ k
      else none := by
  unfold nodeQ
  conv => lhs; unfold node
  cases hs : single v with
  | none => rfl
  | some p =>
    obtain ⟨m, k⟩ := p
    have hk := nodes_kid (single_kid hs)
    simp only
    rw [listsQ_congr (f := node (Cx.nodes v)) (g := fun v => node (Cx.nodes v + 1) v) (v := k) (fun a x ha hx => ?_)]
    have h1 := nodes_kid ha; have h2 := nodes_kid hx
    exact node_fuel (by omega) (by omega)
/-! ### Lines of ops -/
def docJ (i t : Bytes) : J := .mk 6 false [] [tId, tText] [wordJ i, wordJ t]
end Dx
namespace Dx
open Cx (Bytes J)
/-- A value that is right within some depth. -/
def Rt (v : J) : Prop := ∃ d, Cx.right d v = true
theorem rightK_mem {k : J} {d : Nat} : ∀ {l : List J}, Cx.rightK d l = true → k ∈ l → Cx.right d k = true
  | [], _, h => by simp at h
  | a :: l, h, hm => by
    unfold Cx.rightK at h
    simp only [Bool.and_eq_true] at h
    rcases List.mem_cons.1 hm with rfl | hm
    · exact h.1
    · exact rightK_mem h.2 hm
theorem Rt.kid {v k : J} (h : Rt v) (hk : k ∈ v.kids) : Rt k := by
  obtain ⟨d, h⟩ := h
  cases v with
  | mk kd is t ns ks =>
    have hk' : k ∈ ks := hk
    have hne : ks.isEmpty = false := by cases ks with
      | nil => simp at hk'
      | cons => rfl
    unfold Cx.right at h
    split at h
    · simp [hne] at h
    split at h
    · simp [hne] at h
    split at h
    · simp [hne] at h
    split at h
    · simp [hne] at h
    split at h
    · simp only [Bool.and_eq_true] at h; exact ⟨d + 1, rightK_mem h.2 hk'⟩
    split at h
    · simp only [Bool.and_eq_true] at h; exact ⟨d + 1, rightK_mem h.2 hk'⟩
    · simp at h
theorem Rt.names {v : J} (h : Rt v) (hk : v.kind = 6) : v.names.length = v.kids.length := by
  obtain ⟨d, h⟩ := h
  cases v with
  | mk kd is t ns ks =>
    have hk' : kd = 6 := hk
    subst hk'
    unfold Cx.right at h
    simp only [show ¬ ((6 : Int) = 1) by decide, show ¬ ((6 : Int) = 2) by decide, show ¬ ((6 : Int) = 3) by decide, show ¬ ((6 : Int) = 4) by decide, show ¬ ((6 : Int) = 5) by decide, if_false, if_true, Bool.and_eq_true, decide_eq_true_eq] at h
    exact h.1.1.1.1.1
theorem Rt.parse {s : Bytes} {v : J} (h : Cx.parse s = .ok v) : Rt v := by
  have := Cx.parse_right h
  unfold Cx.Right at this
  simp only [Bool.and_eq_true] at this
  exact ⟨0, this.2⟩
theorem fit_kid {L : Nat} {k : J} : ∀ {l : List J}, Cx.fitK L l → k ∈ l → Cx.fit L k
  | [], _, h => by simp at h
  | a :: l, hf, h => by
    unfold Cx.fitK at hf
    rcases List.mem_cons.1 h with rfl | h
    · exact hf.1
    · exact fit_kid hf.2 h
theorem get_right {v k : J} {n : Bytes} (h : Rt v) (hg : Cx.get v n = some k) : Rt k := h.kid (get_mem hg)
theorem get_fit {L : Nat} {v k : J} {n : Bytes} (h : Cx.fit L v) (hg : Cx.get v n = some k) : Cx.fit L k := by
  have hm := get_mem hg
  cases v with
  | mk kd is t ns ks => exact fit_kid h.2.2.2.2 hm
end Dx
namespace Dx
open Cx (Bytes J)
mutual
/-- All texts are at most so long. -/
def qfit (M : Nat) : Qy → Prop
  | .mk _ t a b c => t.length ≤ M ∧ qfitK M a ∧ qfitK M b ∧ qfitK M c
def qfitK (M : Nat) : List Qy → Prop
  | [] => True
  | q :: l => qfit M q ∧ qfitK M l
end
theorem qfitK_mem {M : Nat} {q : Qy} : ∀ {l : List Qy}, qfitK M l → q ∈ l → qfit M q
  | [], _, h => by simp at h
  | a :: l, hf, h => by
    unfold qfitK at hf
    rcases List.mem_cons.1 h with rfl | h
    · exact hf.1
    · exact qfitK_mem hf.2 h
theorem fit_text {L : Nat} {v : J} (h : Cx.fit L v) : v.text.length ≤ L := by
  cases v with
  | mk k is t ns ks => exact h.1
theorem fit_kids {L : Nat} {v k : J} (h : Cx.fit L v) (hk : k ∈ v.kids) : Cx.fit L k := by
  cases v with
  | mk kd is t ns ks => exact fit_kid h.2.2.2.2 hk
theorem nodesK_kids (v : J) : Cx.nodes v = 1 + Cx.nodesK v.kids := by
  cases v with
  | mk kd is t ns ks => rfl
theorem allQ_size {L : Nat} {f : J → Option Qy} : ∀ {l : List J} {r : List Qy}, (∀ x ∈ l, ∀ q, f x = some q → count q ≤ Cx.nodes x ∧ qfit L q) → allQ f l = some r → countK r ≤ Cx.nodesK l ∧ qfitK L r
  | [], r, _, h => by simp only [allQ, Option.some.injEq] at h; subst h; simp [countK, qfitK]
  | k :: l, r, hf, h => by
    simp only [allQ] at h
    cases h1 : f k with
    | none => rw [h1] at h; cases h
    | some q =>
      cases h2 : allQ f l with
      | none => rw [h1, h2] at h; cases h
      | some r' =>
        rw [h1, h2] at h
        injection h with h
        subst h
        have a := hf k (by simp) q h1
        have b := allQ_size (fun x hx => hf x (by simp [hx])) h2
        simp only [countK, qfitK, Cx.nodesK]
        exact ⟨by omega, a.2, b.2⟩
theorem listQ_size {L : Nat} {f : J → Option Qy} {v : J} {n : Bytes} {r : List Qy} (hf : ∀ k ∈ v.kids, ∀ x ∈ k.kids, ∀ q, f x = some q → count q ≤ Cx.nodes x ∧ qfit L q) (h : listQ f v n = some r) :
    (Cx.get v n = none ∧ r = [] ∨ ∃ k, Cx.get v n = some k ∧ countK r < Cx.nodes k) ∧ qfitK L r := by
  unfold listQ at h
  cases hg : Cx.get v n with
  | none =>
    rw [hg] at h
    simp only [Option.some.injEq] at h
    subst h
    exact ⟨.inl ⟨rfl, rfl⟩, by simp [qfitK]⟩
  | some k =>
    rw [hg] at h
    simp only at h
    cases ha : allQ f k.kids with
    | none => rw [ha] at h; cases h
    | some l =>
      rw [ha] at h
      simp only at h
      by_cases h5 : k.kind = 5
      · rw [if_pos h5] at h
        injection h with h
        subst h
        have := allQ_size (hf k (get_mem hg)) ha
        refine ⟨.inr ⟨k, rfl, ?_⟩, this.2⟩
        rw [nodesK_kids]; omega
      · rw [if_neg h5] at h; cases h
/-- Three names of an object that are not one: what stands behind them is no more than all. -/
theorem three_kids {v : J} {n1 n2 n3 : Bytes} {a b c : Nat} (h12 : n1 ≠ n2) (h13 : n1 ≠ n3) (h23 : n2 ≠ n3)
    (h1 : Cx.get v n1 = none ∧ a = 0 ∨ ∃ k, Cx.get v n1 = some k ∧ a < Cx.nodes k) (h2 : Cx.get v n2 = none ∧ b = 0 ∨ ∃ k, Cx.get v n2 = some k ∧ b < Cx.nodes k) (h3 : Cx.get v n3 = none ∧ c = 0 ∨ ∃ k, Cx.get v n3 = some k ∧ c < Cx.nodes k) :
    a + b + c ≤ Cx.nodesK v.kids := by
  cases v with
  | mk kd is t ns ks =>
    have key : ∀ (n : Bytes) (x : Nat), (Cx.get (.mk kd is t ns ks) n = none ∧ x = 0 ∨ ∃ k, Cx.get (.mk kd is t ns ks) n = some k ∧ x < Cx.nodes k) → x = 0 ∨ (n ∈ ns ∧ ∃ k, ks[ns.idxOf n]? = some k ∧ x < Cx.nodes k) := by
      intro n x h
      rcases h with h | ⟨k, h, hx⟩
      · exact .inl h.2
      · right
        have h : (if kd = 6 ∧ n ∈ ns then ks[ns.idxOf n]? else none) = some k := h
        by_cases hc : kd = 6 ∧ n ∈ ns
        · rw [if_pos hc] at h; exact ⟨hc.2, k, h, hx⟩
        · rw [if_neg hc] at h; cases h
    have ne : ∀ n m : Bytes, n ≠ m → n ∈ ns → m ∈ ns → ns.idxOf n ≠ ns.idxOf m := by
      intro n m h hn hm e
      have h1 := List.getElem_idxOf (List.idxOf_lt_length_of_mem hn)
      have h2 := List.getElem_idxOf (List.idxOf_lt_length_of_mem hm)
      apply h
      rw [← h1, ← h2]
      congr 1
    show a + b + c ≤ Cx.nodesK ks
    -- sums over different places
    have one : ∀ (ks : List J) (i : Nat) (k : J) (x : Nat), ks[i]? = some k → x < Cx.nodes k → x + Cx.nodesK (ks.take i) + Cx.nodesK (ks.drop (i + 1)) ≤ Cx.nodesK ks := by
      intro ks
      induction ks with
      | nil => intro i k x h; simp at h
      | cons y ks ih =>
        intro i k x h hx
        cases i with
        | zero => simp only [List.getElem?_cons_zero, Option.some.injEq] at h; subst h; simp [Cx.nodesK]; omega
        | succ i =>
          simp only [List.getElem?_cons_succ] at h
          have := ih i k x h hx
          simp only [List.take_succ_cons, List.drop_succ_cons, Cx.nodesK]; omega
    have app : ∀ l m : List J, Cx.nodesK (l ++ m) = Cx.nodesK l + Cx.nodesK m := by
      intro l m; induction l with
      | nil => simp [Cx.nodesK]
      | cons x l ih => simp [Cx.nodesK, ih]; omega
    -- the sum of a weight over the places
    have sum : ∀ (ks : List J) (f : Nat → Nat), (∀ i k, ks[i]? = some k → f i ≤ Cx.nodes k) → ((List.range ks.length).map f).sum ≤ Cx.nodesK ks := by
      intro ks
      induction ks with
      | nil => intro f _; simp [Cx.nodesK]
      | cons y ks ih =>
        intro f hf
        have h0 := hf 0 y rfl
        have := ih (fun i => f (i + 1)) (fun i k h => hf (i + 1) k (by simpa using h))
        rw [List.length_cons, List.range_succ_eq_map, List.map_cons, List.map_map, List.sum_cons]
        simp only [Cx.nodesK]
        have e : ((List.range ks.length).map (f ∘ Nat.succ)).sum = ((List.range ks.length).map fun i => f (i + 1)).sum := rfl
        omega
    have pick : ∀ (n : Nat) (i x : Nat), i < n → ((List.range n).map fun j => if j = i then x else 0).sum = x := by
      intro n
      induction n with
      | zero => intro i x h; omega
      | succ n ih =>
        intro i x h
        rw [List.range_succ, List.map_append, List.sum_append]
        by_cases hi : i = n
        · subst hi
          have z : ((List.range i).map fun j => if j = i then x else 0).sum = 0 := by
            have : ∀ m, m ≤ i → ((List.range m).map fun j => if j = i then x else 0).sum = 0 := by
              intro m
              induction m with
              | zero => intro _; rfl
              | succ m ihm => intro hm; rw [List.range_succ, List.map_append, List.sum_append, ihm (by omega)]; simp; omega
            exact this i (Nat.le_refl _)
          rw [z]; simp
        · rw [ih i x (by omega)]; simp; omega
    have add : ∀ (n : Nat) (f g : Nat → Nat), ((List.range n).map fun j => f j + g j).sum = ((List.range n).map f).sum + ((List.range n).map g).sum := by
      intro n f g
      induction n with
      | zero => rfl
      | succ n ih => simp only [List.range_succ, List.map_append, List.sum_append, ih, List.map_cons, List.map_nil, List.sum_cons, List.sum_nil]; omega
    have zero : ∀ (n i : Nat), ((List.range n).map fun j => if j = i then 0 else 0).sum = 0 := by
      intro n i
      induction n with
      | zero => rfl
      | succ n ih => rw [List.range_succ, List.map_append, List.sum_append, ih]; simp
    -- each of the three has a place, or is none
    obtain ⟨i1, k1, e1⟩ : ∃ i x, (x = a ∧ i < ks.length ∧ ∃ k, ks[i]? = some k ∧ a < Cx.nodes k ∧ i = ns.idxOf n1 ∧ n1 ∈ ns) ∨ (a = 0 ∧ x = 0 ∧ i = 0) := by
      rcases key n1 a h1 with h | ⟨hm, k, hk, hx⟩
      · exact ⟨0, 0, .inr ⟨h, rfl, rfl⟩⟩
      · exact ⟨_, a, .inl ⟨rfl, (List.getElem?_eq_some_iff.1 hk).1, k, hk, hx, rfl, hm⟩⟩
    obtain ⟨i2, k2, e2⟩ : ∃ i x, (x = b ∧ i < ks.length ∧ ∃ k, ks[i]? = some k ∧ b < Cx.nodes k ∧ i = ns.idxOf n2 ∧ n2 ∈ ns) ∨ (b = 0 ∧ x = 0 ∧ i = 0) := by
      rcases key n2 b h2 with h | ⟨hm, k, hk, hx⟩
      · exact ⟨0, 0, .inr ⟨h, rfl, rfl⟩⟩
      · exact ⟨_, b, .inl ⟨rfl, (List.getElem?_eq_some_iff.1 hk).1, k, hk, hx, rfl, hm⟩⟩
    obtain ⟨i3, k3, e3⟩ : ∃ i x, (x = c ∧ i < ks.length ∧ ∃ k, ks[i]? = some k ∧ c < Cx.nodes k ∧ i = ns.idxOf n3 ∧ n3 ∈ ns) ∨ (c = 0 ∧ x = 0 ∧ i = 0) := by
      rcases key n3 c h3 with h | ⟨hm, k, hk, hx⟩
      · exact ⟨0, 0, .inr ⟨h, rfl, rfl⟩⟩
      · exact ⟨_, c, .inl ⟨rfl, (List.getElem?_eq_some_iff.1 hk).1, k, hk, hx, rfl, hm⟩⟩
    have hs := sum ks (fun j => (if j = i1 then k1 else 0) + ((if j = i2 then k2 else 0) + (if j = i3 then k3 else 0))) (by
      intro i k hk
      have d12 : k1 = 0 ∨ k2 = 0 ∨ i1 ≠ i2 := by
        rcases e1 with ⟨_, _, _, _, _, x1, m1⟩ | ⟨_, h, _⟩
        · rcases e2 with ⟨_, _, _, _, _, x2, m2⟩ | ⟨_, h, _⟩
          · right; right; rw [x1, x2]; exact ne n1 n2 h12 m1 m2
          · exact .inr (.inl h)
        · exact .inl h
      have d13 : k1 = 0 ∨ k3 = 0 ∨ i1 ≠ i3 := by
        rcases e1 with ⟨_, _, _, _, _, x1, m1⟩ | ⟨_, h, _⟩
        · rcases e3 with ⟨_, _, _, _, _, x2, m2⟩ | ⟨_, h, _⟩
          · right; right; rw [x1, x2]; exact ne n1 n3 h13 m1 m2
          · exact .inr (.inl h)
        · exact .inl h
      have d23 : k2 = 0 ∨ k3 = 0 ∨ i2 ≠ i3 := by
        rcases e2 with ⟨_, _, _, _, _, x1, m1⟩ | ⟨_, h, _⟩
        · rcases e3 with ⟨_, _, _, _, _, x2, m2⟩ | ⟨_, h, _⟩
          · right; right; rw [x1, x2]; exact ne n2 n3 h23 m1 m2
          · exact .inr (.inl h)
        · exact .inl h
      have b1 : i = i1 → k1 ≤ Cx.nodes k := by
        intro hi
        rcases e1 with ⟨hx, _, k', hk', hl, _⟩ | ⟨_, h, _⟩
        · rw [← hi, hk] at hk'; injection hk' with hk'; rw [hx, hk']; omega
        · omega
      have b2 : i = i2 → k2 ≤ Cx.nodes k := by
        intro hi
        rcases e2 with ⟨hx, _, k', hk', hl, _⟩ | ⟨_, h, _⟩
        · rw [← hi, hk] at hk'; injection hk' with hk'; rw [hx, hk']; omega
        · omega
      have b3 : i = i3 → k3 ≤ Cx.nodes k := by
        intro hi
        rcases e3 with ⟨hx, _, k', hk', hl, _⟩ | ⟨_, h, _⟩
        · rw [← hi, hk] at hk'; injection hk' with hk'; rw [hx, hk']; omega
        · omega
      have q1 : ¬ i = i1 ∨ k1 ≤ Cx.nodes k := by by_cases h : i = i1; exact .inr (b1 h); exact .inl h
      have q2 : ¬ i = i2 ∨ k2 ≤ Cx.nodes k := by by_cases h : i = i2; exact .inr (b2 h); exact .inl h
      have q3 : ¬ i = i3 ∨ k3 ≤ Cx.nodes k := by by_cases h : i = i3; exact .inr (b3 h); exact .inl h
      clear b1 b2 b3 e1 e2 e3 hk h1 h2 h3
      generalize Cx.nodes k = N at *
      show (if i = i1 then k1 else 0) + ((if i = i2 then k2 else 0) + (if i = i3 then k3 else 0)) ≤ N
      by_cases c1 : i = i1 <;> by_cases c2 : i = i2 <;> by_cases c3 : i = i3 <;> (first | rw [if_pos c1] | rw [if_neg c1]) <;> (first | rw [if_pos c2] | rw [if_neg c2]) <;> (first | rw [if_pos c3] | rw [if_neg c3]) <;> omega)
    rw [add, add] at hs
    have p1 : ((List.range ks.length).map fun j => if j = i1 then k1 else 0).sum = a := by
      rcases e1 with ⟨hx, hl, _⟩ | ⟨h, hx, _⟩
      · rw [pick _ _ _ hl, hx]
      · rw [hx, h]; exact zero _ _
    have p2 : ((List.range ks.length).map fun j => if j = i2 then k2 else 0).sum = b := by
      rcases e2 with ⟨hx, hl, _⟩ | ⟨h, hx, _⟩
      · rw [pick _ _ _ hl, hx]
      · rw [hx, h]; exact zero _ _
    have p3 : ((List.range ks.length).map fun j => if j = i3 then k3 else 0).sum = c := by
      rcases e3 with ⟨hx, hl, _⟩ | ⟨h, hx, _⟩
      · rw [pick _ _ _ hl, hx]
      · rw [hx, h]; exact zero _ _
    omega
theorem node_size {L : Nat} : ∀ (n : Nat) (v : J) (q : Qy), Cx.fit L v → node n v = some q → count q ≤ Cx.nodes v ∧ qfit L q
  | 0, _, _, _, h => by simp [node] at h
  | n + 1, v, q, hf, h => by
    have hv := nodesK_kids v
    unfold node at h
    cases hs : single v with
    | none => rw [hs] at h; cases h
    | some p =>
      obtain ⟨m, k⟩ := p
      have hk := single_kid hs
      have hfk := fit_kids hf hk
      have hft := fit_text hfk
      rw [hs] at h
      simp only at h
      split at h
      · split at h
        · injection h with h; subst h; simp [count, countK, qfit, qfitK, hv]
        · cases h
      split at h
      · split at h
        · injection h with h; subst h; simp [count, countK, qfit, qfitK, hv, hft]
        · cases h
      split at h
      · split at h
        · injection h with h; subst h; simp [count, countK, qfit, qfitK, hv, hft]
        · cases h
      split at h
      · split at h
        · injection h with h; subst h; simp [count, countK, qfit, qfitK, hv, hft]
        · cases h
      split at h
      · unfold listsQ at h
        have hsub : ∀ x ∈ k.kids, ∀ y ∈ x.kids, ∀ q, node n y = some q → count q ≤ Cx.nodes y ∧ qfit L q :=
          fun x hx y hy q hq => node_size n y q (fit_kids (fit_kids hfk hx) hy) hq
        cases h1 : listQ (node n) k tMust with
        | none => rw [h1] at h; cases h
        | some a =>
          cases h2 : listQ (node n) k tShould with
          | none => rw [h1, h2] at h; cases h
          | some b =>
            cases h3 : listQ (node n) k tNot with
            | none => rw [h1, h2, h3] at h; cases h
            | some c =>
              rw [h1, h2, h3] at h
              injection h with h
              subst h
              obtain ⟨g1, f1⟩ := listQ_size hsub h1
              obtain ⟨g2, f2⟩ := listQ_size hsub h2
              obtain ⟨g3, f3⟩ := listQ_size hsub h3
              have z : ∀ {l : List Qy}, l = [] → countK l = 0 := by rintro l rfl; rfl
              have := three_kids (v := k) (n1 := tMust) (n2 := tShould) (n3 := tNot) (by decide) (by decide) (by decide) (g1.imp (fun h => ⟨h.1, z h.2⟩) id) (g2.imp (fun h => ⟨h.1, z h.2⟩) id) (g3.imp (fun h => ⟨h.1, z h.2⟩) id)
              have hkn := nodesK_kids k
              have hkm := nodesK_mem hk
              refine ⟨by simp only [count]; omega, ?_⟩
              unfold qfit
              exact ⟨by simp, f1, f2, f3⟩
      · cases h
theorem nodeQ_size {L : Nat} {v : J} {q : Qy} (hf : Cx.fit L v) (h : nodeQ v = some q) : count q ≤ Cx.nodes v ∧ qfit L q := node_size _ v q hf h
end Dx
