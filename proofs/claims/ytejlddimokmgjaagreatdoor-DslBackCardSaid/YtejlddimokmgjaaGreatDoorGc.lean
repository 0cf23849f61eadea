/- The plain model of package dsl: searches, bulks; functions on lists of bytes; no program in sight. Searches for all, with a page; bulks behind one another. What is read of a body is read of its JSON written anew. Queries as JSON: what is written of a right query is read as it was; lines of ops. What is right of a value is right of its parts. How large a query is that a value says. Hits and documents are JSON: what is read of them; where a text is not valid, that it is told so. -/
import Derived.Test.YtejlddimokmgjaaGreatDoorGb
namespace Dx
open Cx (Bytes J)

/-- A query as data. -/
inductive Qy where
  | mk (kind : Int) (text : Bytes) (must should not : List Qy)

def tMust : Bytes := [109, 117, 115, 116]
def tShould : Bytes := [115, 104, 111, 117, 108, 100]
def tNot : Bytes := [109, 117, 115, 116, 95, 110, 111, 116]
def tAll : Bytes := [109, 97, 116, 99, 104, 95, 97, 108, 108]
def tTerm : Bytes := [116, 101, 114, 109]
def tPhrase : Bytes := [112, 104, 114, 97, 115, 101]
def tPrefix : Bytes := [112, 114, 101, 102, 105, 120]
def tBool : Bytes := [98, 111, 111, 108]
def tQuery : Bytes := [113, 117, 101, 114, 121]
def tFrom : Bytes := [102, 114, 111, 109]
def tSize : Bytes := [115, 105, 122, 101]
def tId : Bytes := [105, 100]
def tText : Bytes := [116, 101, 120, 116]
def tDelete : Bytes := [100, 101, 108, 101, 116, 101]
def tIndex : Bytes := [105, 110, 100, 101, 120]

/-- An object that has no names but some. -/
def only (v : J) (l : List Bytes) : Bool := decide (v.kind = 6) && v.names.all fun n => decide (n ∈ l)
/-- The name and the value of an object that has just one. -/
def single (v : J) : Option (Bytes × J) := if v.kind = 6 ∧ v.kids.length = 1 then some (v.names.headD [], v.kids.headD Cx.nil) else none

/-- A list's queries, as some reader of one has them. -/
def allQ (f : J → Option Qy) : List J → Option (List Qy)
  | [] => some []
  | k :: l => match f k, allQ f l with
    | some q, some r => some (q :: r)
    | _, _ => none
/-- A list of a name: nothing, if it is not there. -/
def listQ (f : J → Option Qy) (v : J) (n : Bytes) : Option (List Qy) :=
  match Cx.get v n with
  | none => some []
  | some k => match allQ f k.kids with
    | some l => if k.kind = 5 then some l else none
    | none => none
def listsQ (f : J → Option Qy) (v : J) : Option Qy :=
  match listQ f v tMust, listQ f v tShould, listQ f v tNot with
  | some a, some b, some c => some (.mk 5 [] a b c)
  | _, _, _ => none
/-- A query, of JSON. The first number: fuel. -/
def node : Nat → J → Option Qy
  | 0, _ => none
  | n + 1, v => match single v with
    | none => none
    | some (m, k) =>
      if m = tAll then (if only k [] = true then some (.mk 1 [] [] [] []) else none)
      else if m = tTerm then (if k.kind = 4 then some (.mk 2 k.text [] [] []) else none)
      else if m = tPhrase then (if k.kind = 4 then some (.mk 3 k.text [] [] []) else none)
      else if m = tPrefix then (if k.kind = 4 then some (.mk 4 k.text [] [] []) else none)
      else if m = tBool ∧ only k [tMust, tShould, tNot] = true then listsQ (node n) k
      else none

theorem allQ_congr {f g : J → Option Qy} : ∀ {l : List J}, (∀ x, x ∈ l → f x = g x) → allQ f l = allQ g l
  | [], _ => rfl
  | k :: l, h => by
    simp only [allQ]
    rw [h k (by simp), allQ_congr (fun x hx => h x (by simp [hx]))]
theorem get_mem {v k : J} {n : Bytes} (h : Cx.get v n = some k) : k ∈ v.kids := by
  cases v with
  | mk kd is t ns ks =>
    have h : (if kd = 6 ∧ n ∈ ns then ks[ns.idxOf n]? else none) = some k := h
    by_cases hc : kd = 6 ∧ n ∈ ns
    · rw [if_pos hc] at h
      exact (List.mem_of_getElem? h : k ∈ ks)
    · rw [if_neg hc] at h; simp at h
theorem nodesK_mem {k : J} : ∀ {l : List J}, k ∈ l → Cx.nodes k ≤ Cx.nodesK l
  | [], h => by simp at h
  | a :: l, h => by
    simp only [Cx.nodesK]
    rcases List.mem_cons.1 h with rfl | h
    · omega
    · have := nodesK_mem h; omega
theorem nodes_kid {v k : J} (h : k ∈ v.kids) : Cx.nodes k < Cx.nodes v := by
  cases v with
  | mk kd is t ns ks =>
    have := nodesK_mem (l := ks) h
    simp only [Cx.nodes]; omega
theorem single_kid {v k : J} {m : Bytes} (h : single v = some (m, k)) : k ∈ v.kids := by
  unfold single at h
  split at h
  · rename_i hc
    injection h with h; injection h with _ h
    cases hk : v.kids with
    | nil => simp [hk] at hc
    | cons a l => rw [hk] at h; simp at h; simp [h]
  · simp at h
theorem listQ_congr {f g : J → Option Qy} {v : J} {n : Bytes} (h : ∀ k x, k ∈ v.kids → x ∈ k.kids → f x = g x) : listQ f v n = listQ g v n := by
  unfold listQ
  cases hg : Cx.get v n with
  | none => rfl
  | some k =>
    simp only
    rw [allQ_congr (fun x hx => h k x (get_mem hg) hx)]
theorem listsQ_congr {f g : J → Option Qy} {v : J} (h : ∀ k x, k ∈ v.kids → x ∈ k.kids → f x = g x) : listsQ f v = listsQ g v := by
  unfold listsQ
  rw [listQ_congr h, listQ_congr h, listQ_congr h]
/-- Fuel enough is fuel enough. -/
theorem node_fuel : ∀ {n m : Nat} {v : J}, Cx.nodes v < n → Cx.nodes v < m → node n v = node m v
  | 0, _, _, h, _ => by omega
  | _, 0, _, _, h => by omega
  | n + 1, m + 1, v, h, h' => by
    unfold node
    cases hs : single v with
    | none => rfl
    | some p =>
      obtain ⟨nm, k⟩ := p
      have hk := nodes_kid (single_kid hs)
      simp only
      rw [listsQ_congr (f := node n) (g := node m) (v := k) (fun a x ha hx => ?_)]
      have h1 := nodes_kid ha; have h2 := nodes_kid hx
      exact node_fuel (by omega) (by omega)
/-- A query, of JSON. -/
def nodeQ (v : J) : Option Qy := node (Cx.nodes v + 1) v

mutual
def count : Qy → Nat
  | .mk _ _ a b c => 1 + countK a + countK b + countK c
def countK : List Qy → Nat
  | [] => 0
  | q :: l => count q + countK l
end
mutual
def deep : Qy → Nat
  | .mk _ _ a b c => 1 + max (deepK a) (max (deepK b) (deepK c))
def deepK : List Qy → Nat
  | [] => 0
  | q :: l => max (deep q) (deepK l)
end
def nodeOk (k : Int) (t : Bytes) (n : Nat) : Bool :=
  if k = 2 ∨ k = 3 ∨ k = 4 then decide (n = 0) && decide (t.length ≤ 200) && Cx.valid t
  else if k = 1 then decide (n = 0) && decide (t = [])
  else if k = 5 then decide (t = [])
  else false
mutual
def nodesOk : Qy → Bool
  | .mk k t a b c => nodesOkK a && nodesOkK b && nodesOkK c && nodeOk k t (a.length + b.length + c.length)
def nodesOkK : List Qy → Bool
  | [] => true
  | q :: l => nodesOk q && nodesOkK l
end
def right (q : Qy) : Bool := decide (count q ≤ 100) && decide (deep q ≤ 20) && nodesOk q

/-- A number of a name. -/
def number (v : J) (n : Bytes) (none most : Int) : Option Int :=
  match Cx.get v n with
  | Option.none => some none
  | some k => match Cx.toInt k with
    | some x => if 0 ≤ x ∧ x ≤ most then some x else Option.none
    | Option.none => Option.none
/-- A search: the query, from, size; or an error: 7 (form), 18 (query). -/
def search (s : Bytes) : Except Nat (Qy × Int × Int) :=
  match Cx.parse s with
  | .error _ => .error 7
  | .ok v => match number v tFrom 0 10000, number v tSize 10 100, Cx.get v tQuery with
    | some a, some b, some k => match nodeQ k with
      | some q => if only v [tQuery, tFrom, tSize] = true ∧ right q = true then .ok (q, a, b) else .error 18
      | none => .error 18
    | _, _, _ => .error 18

/-- An op: is it to delete, the document's name, its text. -/
structure Op where
  del : Bool
  id : Bytes
  text : Bytes
def textOf (v : J) (n : Bytes) : Option Bytes := match Cx.get v n with | some k => if k.kind = 4 then some k.text else none | none => none
def op (v : J) : Option Op :=
  match single v with
  | none => none
  | some (m, k) => match textOf k tId with
    | none => none
    | some i =>
      if m = tDelete then (if only k [tId] = true then some ⟨true, i, []⟩ else none)
      else match textOf k tText with
        | none => none
        | some t => if m = tIndex ∧ only k [tId, tText] = true then some ⟨false, i, t⟩ else none
/-- The lines between line feeds. -/
def linesN : Nat → Bytes → List Bytes
  | 0, s => [s]
  | n + 1, s => if 10 ∈ s then s.take (s.idxOf 10) :: linesN n (s.drop (s.idxOf 10 + 1)) else [s]
def lines (s : Bytes) : List Bytes := linesN (s.count 10) s
def bulkL : List Bytes → Except Nat (List Op)
  | [] => .ok []
  | l :: r =>
    if l = [] ∨ l = [13] then bulkL r
    else match Cx.parse l with
      | .error _ => .error 7
      | .ok v => match op v with
        | none => .error 18
        | some o => match bulkL r with
          | .error e => .error e
          | .ok t => .ok (o :: t)
def bulk (s : Bytes) : Except Nat (List Op) := bulkL (lines s)
def textB (s : Bytes) : Except Nat Bytes :=
  match Cx.parse s with
  | .error _ => .error 7
  | .ok v => if v.kind = 4 then .ok v.text else .error 18
end Dx
namespace Dx
open Cx (Bytes J)
def numJ (x : Int) : J := .mk 3 false (Cx.decI x) [] []
def allJ : J := .mk 6 false [] [tAll] [.mk 6 false [] [] []]
def pageJ (f n : Int) (first : Bool) : J := if first then .mk 6 false [] [tQuery, tSize, tFrom] [allJ, numJ n, numJ f] else .mk 6 false [] [tFrom, tSize, tQuery] [numJ f, numJ n, allJ]
theorem numJ_right {x : Int} (d : Nat) (h : -1000000 ≤ x) (h' : x ≤ 1000000) : Cx.right d (numJ x) = true := by
  have := Cx.isNum_decI (n := x) (by omega) (by omega)
  simp [numJ, Cx.right, this]
theorem allJ_right : Cx.right 1 allJ = true := by decide +kernel
theorem pageJ_right {f n : Int} (first : Bool) (h1 : -1000000 ≤ f) (h2 : f ≤ 1000000) (h3 : -1000000 ≤ n) (h4 : n ≤ 1000000) : Cx.Right (pageJ f n first) = true := by
  have r1 := numJ_right 1 h1 h2; have r2 := numJ_right 1 h3 h4; have r3 := allJ_right
  have n1 : Cx.namesOk [] [tQuery, tSize, tFrom] = true := by decide +kernel
  have n2 : Cx.namesOk [] [tFrom, tSize, tQuery] = true := by decide +kernel
  cases first with
  | true =>
    have hn : Cx.nodes (pageJ f n true) ≤ 5000 := by simp [pageJ, Cx.nodes, Cx.nodesK, numJ, allJ]
    simp only [Cx.Right, Bool.and_eq_true, decide_eq_true_eq]
    refine ⟨hn, ?_⟩
    simp [pageJ, Cx.right, Cx.rightK, r1, r2, r3, n1]
  | false =>
    have hn : Cx.nodes (pageJ f n false) ≤ 5000 := by simp [pageJ, Cx.nodes, Cx.nodesK, numJ, allJ]
    simp only [Cx.Right, Bool.and_eq_true, decide_eq_true_eq]
    refine ⟨hn, ?_⟩
    simp [pageJ, Cx.right, Cx.rightK, r1, r2, r3, n2]
def pageText (f n : Int) (first : Bool) : Bytes :=
  if first then [123, 34, 113, 117, 101, 114, 121, 34, 58, 123, 34, 109, 97, 116, 99, 104, 95, 97, 108, 108, 34, 58, 123, 125, 125, 44] ++ [34, 115, 105, 122, 101, 34, 58] ++ Cx.decI n ++ [44] ++ [34, 102, 114, 111, 109, 34, 58] ++ Cx.decI f ++ [125]
  else [123] ++ [34, 102, 114, 111, 109, 34, 58] ++ Cx.decI f ++ [44] ++ [34, 115, 105, 122, 101, 34, 58] ++ Cx.decI n ++ [44, 34, 113, 117, 101, 114, 121, 34, 58, 123, 34, 109, 97, 116, 99, 104, 95, 97, 108, 108, 34, 58, 123, 125, 125, 125]
theorem page_pr (f n : Int) (first : Bool) : Cx.pr (pageJ f n first) = pageText f n first := by
  have e1 : Cx.jtext tQuery = [34, 113, 117, 101, 114, 121, 34] := by decide +kernel
  have e2 : Cx.jtext tSize = [34, 115, 105, 122, 101, 34] := by decide +kernel
  have e3 : Cx.jtext tFrom = [34, 102, 114, 111, 109, 34] := by decide +kernel
  have e4 : Cx.jtext tAll = [34, 109, 97, 116, 99, 104, 95, 97, 108, 108, 34] := by decide +kernel
  cases first <;> simp [pageJ, pageText, Cx.pr, Cx.prK, numJ, allJ, e1, e2, e3, e4]
theorem page_len {f n : Int} (first : Bool) (h1 : -1000000 ≤ f) (h2 : f ≤ 1000000) (h3 : -1000000 ≤ n) (h4 : n ≤ 1000000) : (pageText f n first).length ≤ 200 := by
  have l1 := Cx.decI_length (n := f) (by omega) (by omega); have l2 := Cx.decI_length (n := n) (by omega) (by omega)
  cases first <;> (simp only [pageText, if_pos, Bool.false_eq_true, if_false, List.length_append, List.length_cons, List.length_nil]; omega)
theorem page_search {f n : Int} (first : Bool) (h1 : -1000000 ≤ f) (h2 : f ≤ 1000000) (h3 : -1000000 ≤ n) (h4 : n ≤ 1000000) :
    search (pageText f n first) = if 0 ≤ f ∧ f ≤ 10000 ∧ 0 ≤ n ∧ n ≤ 100 then .ok (.mk 1 [] [] [] [], f, n) else .error 18 := by
  have hp := Cx.parse_pr (pageJ_right first h1 h2 h3 h4) (by rw [page_pr]; exact Nat.le_trans (page_len first h1 h2 h3 h4) (by decide))
  rw [page_pr] at hp
  have t1 := Cx.toInt_decI (n := f) (by omega) (by omega); have t2 := Cx.toInt_decI (n := n) (by omega) (by omega)
  have g1 : Cx.get (pageJ f n first) tFrom = some (numJ f) := by cases first <;> simp [pageJ, Cx.get, tFrom, tSize, tQuery, List.idxOf, List.findIdx, List.findIdx.go]
  have g2 : Cx.get (pageJ f n first) tSize = some (numJ n) := by cases first <;> simp [pageJ, Cx.get, tFrom, tSize, tQuery, List.idxOf, List.findIdx, List.findIdx.go]
  have g3 : Cx.get (pageJ f n first) tQuery = some allJ := by cases first <;> simp [pageJ, Cx.get, tFrom, tSize, tQuery, List.idxOf, List.findIdx, List.findIdx.go]
  have o : only (pageJ f n first) [tQuery, tFrom, tSize] = true := by cases first <;> simp [pageJ, only, J.kind, J.names]
  have nd : nodeQ allJ = some (.mk 1 [] [] [] []) := by
    unfold nodeQ node
    have s : single allJ = some (tAll, .mk 6 false [] [] []) := by simp [single, allJ, J.kind, J.kids, J.names]
    rw [s]
    simp [only, J.kind, J.names]
  have rq : right (.mk 1 [] [] [] []) = true := by simp [right, count, countK, deep, deepK, nodesOk, nodesOkK, nodeOk]
  unfold search
  rw [hp]
  simp only
  unfold number
  rw [g1, g2, g3]
  simp only
  rw [show Cx.toInt (numJ f) = some f from t1, show Cx.toInt (numJ n) = some n from t2]
  simp only
  by_cases c1 : 0 ≤ f ∧ f ≤ 10000
  · by_cases c2 : 0 ≤ n ∧ n ≤ 100
    · rw [if_pos c1, if_pos c2, if_pos ⟨c1.1, c1.2, c2.1, c2.2⟩]
      simp only
      rw [nd]
      simp only
      rw [if_pos ⟨o, rq⟩]
    · rw [if_pos c1, if_neg c2, if_neg (fun h => c2 ⟨h.2.2.1, h.2.2.2⟩)]
  · have c2 : ¬ (0 ≤ f ∧ f ≤ 10000 ∧ 0 ≤ n ∧ n ≤ 100) := fun h => c1 ⟨h.1, h.2.1⟩
    rw [if_neg c1, if_neg c2]
/-! ### Bulks -/
theorem linesN_succ {n : Nat} {s : Bytes} (h : (10 : UInt8) ∈ s) : linesN (n + 1) s = s.take (s.idxOf 10) :: linesN n (s.drop (s.idxOf 10 + 1)) := by
  conv => lhs; unfold linesN
  rw [if_pos h]
theorem linesN_app (s t : Bytes) : ∀ (n : Nat), n = s.count 10 → linesN (n + 1 + t.count 10) (s ++ 10 :: t) = linesN n s ++ linesN (t.count 10) t := by
  intro n
  induction n generalizing s with
  | zero =>
    intro h
    have h10 : (10 : UInt8) ∉ s := List.count_eq_zero.1 h.symm
    have hi : (s ++ 10 :: t).idxOf 10 = s.length := by rw [List.idxOf_append, if_neg h10, List.idxOf_cons_self]; omega
    rw [show 0 + 1 + t.count 10 = t.count 10 + 1 by omega]
    unfold linesN
    rw [if_pos (by simp), hi, List.take_left, ← List.drop_drop, List.drop_left]
    cases hs : t.count 10 with
    | zero => rfl
    | succ k => rfl
  | succ n ih =>
    intro h
    have h10 : (10 : UInt8) ∈ s := List.count_pos_iff.1 (by omega)
    have hi : (s ++ 10 :: t).idxOf 10 = s.idxOf 10 := by rw [List.idxOf_append, if_pos h10]
    have hlt : s.idxOf 10 < s.length := List.idxOf_lt_length_of_mem h10
    rw [show n + 1 + 1 + t.count 10 = (n + 1 + t.count 10) + 1 by omega]
    rw [linesN_succ (List.mem_append_left _ h10), linesN_succ h10, hi, List.take_append_of_le_length (by omega), List.drop_append_of_le_length (by omega)]
    rw [ih (s.drop (s.idxOf 10 + 1)) ?_]
    · simp
    · have e : s = s.take (s.idxOf 10) ++ 10 :: s.drop (s.idxOf 10 + 1) := by
        conv => lhs; rw [← List.take_append_drop (s.idxOf 10) s, List.drop_eq_getElem_cons hlt]
        rw [List.getElem_idxOf hlt]
      have hn : (10 : UInt8) ∉ s.take (s.idxOf 10) := by
        intro hm
        obtain ⟨k, hk, he⟩ := List.getElem_of_mem hm
        rw [List.length_take] at hk
        rw [List.getElem_take] at he
        have := List.not_of_lt_findIdx (p := (· == (10 : UInt8))) (xs := s) (i := k) (by unfold List.idxOf at hk; omega)
        simp [he] at this
      have hc := congrArg (List.count 10) e
      rw [List.count_append, List.count_cons_self, List.count_eq_zero.2 hn] at hc
      omega
theorem lines_app (s t : Bytes) : lines (s ++ 10 :: t) = lines s ++ lines t := by
  unfold lines
  rw [← linesN_app s t _ rfl]
  congr 1
  rw [List.count_append, List.count_cons_self]; omega
theorem bulkL_app : ∀ (a b : List Bytes), bulkL (a ++ b) = match bulkL a with
    | .error e => .error e
    | .ok x => match bulkL b with
      | .error e => .error e
      | .ok y => .ok (x ++ y)
  | [], b => by
    simp only [List.nil_append, bulkL]
    cases bulkL b <;> rfl
  | l :: a, b => by
    have ih := bulkL_app a b
    simp only [List.cons_append, bulkL]
    split
    · exact ih
    · cases Cx.parse l with
      | error e => rfl
      | ok v =>
        simp only
        cases op v with
        | none => rfl
        | some o =>
          simp only
          rw [ih]
          cases bulkL a with
          | error e => rfl
          | ok x =>
            simp only
            cases bulkL b with
            | error e => rfl
            | ok y => rfl
theorem bulk_app (s t : Bytes) : bulk (s ++ 10 :: t) = match bulk s with
    | .error e => .error e
    | .ok x => match bulk t with
      | .error e => .error e
      | .ok y => .ok (x ++ y) := by
  unfold bulk
  rw [lines_app, bulkL_app]
end Dx
namespace Dx
open Cx (Bytes J)
theorem isNum_printable {t : Bytes} (h : Cx.isNum t) : ∀ x ∈ t, 32 ≤ x := by
  intro x hx
  rcases Cx.isNum_all h x hx with h | h
  · simp only [Cx.isDig, Bool.and_eq_true, decide_eq_true_eq] at h
    have h1 := h.1
    rw [UInt8.le_iff_toNat_le] at h1 ⊢
    simp at h1 ⊢; omega
  · simp only [List.mem_cons, List.not_mem_nil, or_false] at h
    rcases h with rfl | rfl | rfl | rfl | rfl <;> decide
mutual
theorem pr_printable : ∀ (v : J) (d : Nat), Cx.right d v = true → ∀ x ∈ Cx.pr v, 32 ≤ x
  | .mk k is t ns ks, d, h => by
    unfold Cx.right at h
    unfold Cx.pr
    by_cases h1 : k = 1
    · rw [if_pos h1]; decide
    rw [if_neg h1] at h ⊢
    by_cases h2 : k = 2
    · rw [if_pos h2]; cases is <;> decide
    rw [if_neg h2] at h ⊢
    by_cases h3 : k = 3
    · rw [if_pos h3] at h ⊢
      simp only [Bool.and_eq_true, decide_eq_true_eq] at h
      exact isNum_printable h.2
    rw [if_neg h3] at h ⊢
    by_cases h4 : k = 4
    · rw [if_pos h4]; exact Cx.jtext_printable t
    rw [if_neg h4] at h ⊢
    by_cases h5 : k = 5
    · rw [if_pos h5] at h
      simp only [Bool.and_eq_true, decide_eq_true_eq] at h
      rw [if_neg (by omega)]
      intro x hx
      simp only [List.mem_cons, List.mem_append, List.not_mem_nil, or_false] at hx
      rcases hx with rfl | hx | rfl
      · decide
      · exact prK_printable ks _ _ _ _ h.2 x hx
      · decide
    rw [if_neg h5] at h
    by_cases h6 : k = 6
    · rw [if_pos h6] at h ⊢
      simp only [Bool.and_eq_true, decide_eq_true_eq] at h
      intro x hx
      simp only [List.mem_cons, List.mem_append, List.not_mem_nil, or_false] at hx
      rcases hx with rfl | hx | rfl
      · decide
      · exact prK_printable ks _ _ _ _ h.2 x hx
      · decide
    rw [if_neg h6] at h
    cases h
theorem prK_printable : ∀ (ks : List J) (o f : Bool) (ns : List Bytes) (d : Nat), Cx.rightK d ks = true → ∀ x ∈ Cx.prK o f ns ks, 32 ≤ x
  | [], _, _, _, _, _ => by unfold Cx.prK; simp
  | k :: ks, o, f, ns, d, h => by
    unfold Cx.rightK at h
    simp only [Bool.and_eq_true] at h
    unfold Cx.prK
    intro x hx
    simp only [List.mem_append] at hx
    rcases hx with hx | hx | hx | hx
    · cases f <;> simp at hx; subst hx; decide
    · cases o <;> simp at hx
      rcases hx with hx | rfl
      · exact Cx.jtext_printable _ x hx
      · decide
    · exact pr_printable k d h.1 x hx
    · exact prK_printable ks _ _ _ _ h.2 x hx
end
theorem not_feed {s : Bytes} (h : ∀ x ∈ s, (32 : UInt8) ≤ x) : (10 : UInt8) ∉ s := fun hm => absurd (h _ hm) (by decide)
theorem not_return {s : Bytes} (h : ∀ x ∈ s, (32 : UInt8) ≤ x) : (13 : UInt8) ∉ s := fun hm => absurd (h _ hm) (by decide)
theorem lines_one {s : Bytes} (h : (10 : UInt8) ∉ s) : lines s = [s] := by
  unfold lines
  rw [List.count_eq_zero.2 h]; rfl
theorem search_congr {s t : Bytes} (h : Cx.parse s = Cx.parse t) : search s = search t := by unfold search; rw [h]
theorem pr_short {s : Bytes} {v : J} (h : Cx.parse s = .ok v) (hl : s.length ≤ 4000) : (Cx.pr v).length ≤ 24000 := by
  have := Cx.parse_len h; omega
theorem parse_again {s : Bytes} {v : J} (h : Cx.parse s = .ok v) (hl : s.length ≤ 4000) {a b : Bytes} (ha : Cx.Blanks a) (hb : Cx.Blanks b) (h1 : a.length ≤ 100) (h2 : b.length ≤ 100) : Cx.parse (a ++ (Cx.pr v ++ b)) = .ok v := by
  have hr := Cx.parse_right h
  have hr0 : Cx.right 0 v = true := by
    unfold Cx.Right at hr
    simp only [Bool.and_eq_true] at hr
    exact hr.2
  have := pr_short h hl
  exact Cx.parse_shows hr (Cx.shows_pr v 0 hr0) ha hb (by simp only [List.length_append]; omega)
theorem blanks_search {s : Bytes} {v : J} (h : Cx.parse s = .ok v) (hl : s.length ≤ 4000) : search (9 :: (Cx.pr v ++ [13, 10])) = search s := by
  refine search_congr ?_
  rw [h]
  exact parse_again h hl (a := [9]) (b := [13, 10]) (by intro c hc; simp at hc; subst hc; decide) (by intro c hc; simp at hc; rcases hc with rfl | rfl <;> decide) (by decide) (by decide)
theorem search_error {s : Bytes} {e : Nat × Nat} (h : Cx.parse s = .error e) : search s = .error 7 := by unfold search; rw [h]
/-- The bulk of a value that is written; of it twice, with line ends between. -/
theorem blanks_bulk {s : Bytes} {v : J} (h : Cx.parse s = .ok v) (hl : s.length ≤ 4000) :
    bulk (Cx.pr v) = (match op v with | none => .error 18 | some o => .ok [o]) ∧
    bulk (Cx.pr v ++ ([13, 10, 13, 10, 10] ++ Cx.pr v)) = (match op v with | none => .error 18 | some o => .ok [o, o]) := by
  have hr := Cx.parse_right h
  have hr0 : Cx.right 0 v = true := by
    unfold Cx.Right at hr
    simp only [Bool.and_eq_true] at hr
    exact hr.2
  have hpr := pr_printable v 0 hr0
  have n10 := not_feed hpr
  have n13 := not_return hpr
  have hne := Cx.pr_ne hr0
  have hp : Cx.parse (Cx.pr v) = .ok v := by
    have := parse_again h hl (a := []) (b := []) Cx.Blanks.nil Cx.Blanks.nil (by decide) (by decide)
    simpa using this
  have hp2 : Cx.parse (Cx.pr v ++ [13]) = .ok v := by
    have := parse_again h hl (a := []) (b := [13]) Cx.Blanks.nil (by intro c hc; simp at hc; subst hc; decide) (by decide) (by decide)
    simpa using this
  have e13 : Cx.pr v ≠ [13] := fun e => n13 (by rw [e]; simp)
  have l2 : lines (Cx.pr v ++ ([13, 10, 13, 10, 10] ++ Cx.pr v)) = [Cx.pr v ++ [13], [13], [], Cx.pr v] := by
    have e : Cx.pr v ++ ([13, 10, 13, 10, 10] ++ Cx.pr v) = (Cx.pr v ++ [13]) ++ 10 :: ([13] ++ 10 :: ([] ++ 10 :: Cx.pr v)) := by simp
    rw [e, lines_app, lines_app, lines_app, lines_one n10, lines_one (s := Cx.pr v ++ [13]) (by simp [n10]), lines_one (s := [13]) (by decide), lines_one (s := []) (by decide)]
    rfl
  constructor
  · unfold bulk
    rw [lines_one n10]
    unfold bulkL
    rw [if_neg (by simp [hne, e13]), hp]
    simp only
    cases op v <;> simp [bulkL]
  · unfold bulk
    rw [l2]
    have x1 : Cx.pr v ++ [13] ≠ [] := by simp
    have x2 : Cx.pr v ++ [13] ≠ [13] := by simp [hne]
    unfold bulkL
    rw [if_neg (by simp [x2]), hp2]
    simp only
    cases ho : op v with
    | none => rfl
    | some o =>
      have hb : bulkL [Cx.pr v] = .ok [o] := by
        unfold bulkL
        rw [if_neg (by simp [hne, e13]), hp]
        simp only [ho]
        rfl
      have h3 : bulkL [[13], [], Cx.pr v] = .ok [o] := by
        unfold bulkL
        rw [if_pos (.inr rfl)]
        unfold bulkL
        rw [if_pos (.inl rfl), hb]
      simp only [h3]
end Dx
namespace Dx
open Cx (Bytes J)
def wordJ (s : Bytes) : J := .mk 4 false s [] []
def objJ (n : Bytes) (v : J) : J := .mk 6 false [] [n] [v]
def addN (n : Bytes) (l : List J) : List Bytes := if l = [] then [] else [n]
def addK (l : List J) : List J := if l = [] then [] else [.mk 5 false [] [] l]
mutual
/-- A query's JSON. -/
def tree : Qy → J
  | .mk k t a b c =>
    if k = 1 then objJ tAll (.mk 6 false [] [] [])
    else if k = 2 then objJ tTerm (wordJ t)
    else if k = 3 then objJ tPhrase (wordJ t)
    else if k = 4 then objJ tPrefix (wordJ t)
    else objJ tBool (.mk 6 false [] (addN tMust (treeL a) ++ addN tShould (treeL b) ++ addN tNot (treeL c)) (addK (treeL a) ++ addK (treeL b) ++ addK (treeL c)))
def treeL : List Qy → List J
  | [] => []
  | q :: l => tree q :: treeL l
end
theorem treeL_length : ∀ l : List Qy, (treeL l).length = l.length
  | [] => rfl
  | q :: l => by simp [treeL, treeL_length l]
theorem treeL_nil {l : List Qy} : treeL l = [] ↔ l = [] := by
  cases l <;> simp [treeL]
theorem treeL_snoc (q : Qy) : ∀ l : List Qy, treeL (l ++ [q]) = treeL l ++ [tree q]
  | [] => rfl
  | p :: l => by simp [treeL, treeL_snoc q l]
/-- A query's text. -/
def queryB (q : Qy) : Bytes := if right q = true then Cx.print (tree q) else []
mutual
theorem tree_nodes : ∀ q : Qy, Cx.nodes (tree q) ≤ 5 * count q
  | .mk k t a b c => by
    have ha := treeL_nodes a; have hb := treeL_nodes b; have hc := treeL_nodes c
    have add : ∀ l : List J, Cx.nodesK (addK l) ≤ 1 + Cx.nodesK l := by
      intro l; unfold addK; split <;> simp [Cx.nodesK, Cx.nodes]
    have app : ∀ l m : List J, Cx.nodesK (l ++ m) = Cx.nodesK l + Cx.nodesK m := by
      intro l m; induction l with
      | nil => simp [Cx.nodesK]
      | cons x l ih => simp [Cx.nodesK, ih]; omega
    have h1 := add (treeL a); have h2 := add (treeL b); have h3 := add (treeL c)
    unfold tree
    repeat' split
    all_goals simp only [objJ, wordJ, Cx.nodes, Cx.nodesK, count, app]
    all_goals omega
theorem treeL_nodes : ∀ l : List Qy, Cx.nodesK (treeL l) ≤ 5 * countK l
  | [] => by simp [treeL, Cx.nodesK]
  | q :: l => by
    have := tree_nodes q; have := treeL_nodes l
    simp only [treeL, Cx.nodesK, countK]; omega
end
theorem rightK_app (d : Nat) (l m : List J) : Cx.rightK d (l ++ m) = (Cx.rightK d l && Cx.rightK d m) := by
  induction l with
  | nil => simp [Cx.rightK]
  | cons x l ih => simp [Cx.rightK, ih, Bool.and_assoc]
theorem names_right (x y z : Bool) : Cx.namesOk [] ((if x then [] else [tMust]) ++ (if y then [] else [tShould]) ++ (if z then [] else [tNot])) = true := by
  cases x <;> cases y <;> cases z <;> decide +kernel
theorem addN_eq (n : Bytes) (l : List J) : addN n l = if l.isEmpty then [] else [n] := by
  unfold addN; cases l <;> simp
theorem objJ_right {d : Nat} {n : Bytes} {v : J} (hn : Cx.valid n = true) (hd : d < 20) (hv : Cx.right (d + 1) v = true) : Cx.right d (objJ n v) = true := by
  simp [objJ, Cx.right, Cx.rightK, hd, hv, Cx.namesOk, hn]
theorem nodeOk_text {k : Int} {t : Bytes} {n : Nat} (h : nodeOk k t n = true) (hk : k = 2 ∨ k = 3 ∨ k = 4) : n = 0 ∧ Cx.valid t = true := by
  unfold nodeOk at h
  rw [if_pos hk] at h
  simp only [Bool.and_eq_true, decide_eq_true_eq] at h
  exact ⟨h.1.1, h.2⟩
mutual
theorem tree_right : ∀ (q : Qy) (d : Nat), nodesOk q = true → d + 3 * deep q ≤ 20 → Cx.right d (tree q) = true
  | .mk k t a b c, d, h, hd => by
    simp only [nodesOk, Bool.and_eq_true] at h
    obtain ⟨⟨⟨ha, hb⟩, hc⟩, hk⟩ := h
    simp only [deep] at hd
    unfold tree
    by_cases h1 : k = 1
    · rw [if_pos h1]
      exact objJ_right (by decide +kernel) (by omega) (by simp [Cx.right, Cx.rightK, Cx.namesOk]; omega)
    rw [if_neg h1]
    have wr : ∀ e, Cx.valid t = true → Cx.right e (wordJ t) = true := by
      intro e hv; simp [wordJ, Cx.right, hv]
    by_cases h2 : k = 2
    · rw [if_pos h2]
      exact objJ_right (by decide +kernel) (by omega) (wr _ (nodeOk_text hk (.inl h2)).2)
    rw [if_neg h2]
    by_cases h3 : k = 3
    · rw [if_pos h3]
      exact objJ_right (by decide +kernel) (by omega) (wr _ (nodeOk_text hk (.inr (.inl h3))).2)
    rw [if_neg h3]
    by_cases h4 : k = 4
    · rw [if_pos h4]
      exact objJ_right (by decide +kernel) (by omega) (wr _ (nodeOk_text hk (.inr (.inr h4))).2)
    rw [if_neg h4]
    have kid : ∀ (l : List Qy), nodesOkK l = true → d + 3 + 3 * deepK l ≤ 20 → Cx.rightK (d + 2) (addK (treeL l)) = true ∨ True := fun _ _ _ => .inr trivial
    have ra := treeL_right a (d + 3) ha (by omega); have rb := treeL_right b (d + 3) hb (by omega); have rc := treeL_right c (d + 3) hc (by omega)
    have ka : ∀ l : List J, Cx.rightK (d + 3) l = true → Cx.rightK (d + 2) (addK l) = true := by
      intro l hl
      unfold addK
      split
      · simp [Cx.rightK]
      · simp only [Cx.rightK, Bool.and_true]
        unfold Cx.right
        simp [hl]; omega
    have hl : (addN tMust (treeL a) ++ addN tShould (treeL b) ++ addN tNot (treeL c)).length = (addK (treeL a) ++ addK (treeL b) ++ addK (treeL c)).length := by
      have : ∀ (n : Bytes) (l : List J), (addN n l).length = (addK l).length := by intro n l; unfold addN addK; split <;> rfl
      simp only [List.length_append, this]
    have hn : Cx.namesOk [] (addN tMust (treeL a) ++ addN tShould (treeL b) ++ addN tNot (treeL c)) = true := by
      simp only [addN_eq]
      exact names_right _ _ _
    refine objJ_right (by decide +kernel) (by omega) ?_
    unfold Cx.right
    simp only [show ¬ ((6 : Int) = 1) by decide, show ¬ ((6 : Int) = 2) by decide, show ¬ ((6 : Int) = 3) by decide, show ¬ ((6 : Int) = 4) by decide, show ¬ ((6 : Int) = 5) by decide, if_false, if_true, Bool.and_eq_true, decide_eq_true_eq]
    refine ⟨⟨⟨⟨⟨hl, hn⟩, trivial⟩, rfl⟩, by omega⟩, ?_⟩
    rw [rightK_app, rightK_app, ka _ ra, ka _ rb, ka _ rc]; rfl
theorem treeL_right : ∀ (l : List Qy) (d : Nat), nodesOkK l = true → d + 3 * deepK l ≤ 20 → Cx.rightK d (treeL l) = true
  | [], _, _, _ => by simp [treeL, Cx.rightK]
  | q :: l, d, h, hd => by
    simp only [nodesOkK, Bool.and_eq_true] at h
    simp only [deepK] at hd
    simp only [treeL, Cx.rightK, Bool.and_eq_true]
    exact ⟨tree_right q d h.1 (by omega), treeL_right l d h.2 (by omega)⟩
end
/-- A query, one step unfolded. -/
theorem nodeQ_step (v : J) : nodeQ v = match single v with
    | none => none
    | some (m, k) =>
      if m = tAll then (if only k [] = true then some (.mk 1 [] [] [] []) else none)
      else if m = tTerm then (if k.kind = 4 then some (.mk 2 k.text [] [] []) else none)
      else if m = tPhrase then (if k.kind = 4 then some (.mk 3 k.text [] [] []) else none)
      else if m = tPrefix then (if k.kind = 4 then some (.mk 4 k.text [] [] []) else none)
      else if m = tBool ∧ only k [tMust, tShould, tNot] = true then listsQ nodeQ k
      else none := by
  unfold nodeQ
  conv => lhs; unfold node
  cases hs : single v with
  | none => rfl
  | some p =>
    obtain ⟨m, k⟩ := p
    have hk := nodes_kid (single_kid hs)
    simp only
    rw [listsQ_congr (f := node (Cx.nodes v)) (g := fun v => node (Cx.nodes v + 1) v) (v := k) (fun a x ha hx => ?_)]
    have h1 := nodes_kid ha; have h2 := nodes_kid hx
    exact node_fuel (by omega) (by omega)
theorem single_obj (n : Bytes) (v : J) : single (objJ n v) = some (n, v) := by simp [single, objJ, J.kind, J.kids, J.names]
theorem list_get (x y z : List J) (k : J) (hk : k = .mk 6 false [] (addN tMust x ++ addN tShould y ++ addN tNot z) (addK x ++ addK y ++ addK z)) :
    Cx.get k tMust = (addK x).head? ∧ Cx.get k tShould = (addK y).head? ∧ Cx.get k tNot = (addK z).head? ∧ only k [tMust, tShould, tNot] = true := by
  subst hk
  cases x <;> cases y <;> cases z <;>
    simp [Cx.get, addN, addK, tMust, tShould, tNot, List.idxOf, List.findIdx, List.findIdx.go, only, J.kind, J.names]
theorem listQ_add {f : J → Option Qy} {v : J} {n : Bytes} {l : List J} {r : List Qy} (hg : Cx.get v n = (addK l).head?) (h : allQ f l = some r) : listQ f v n = some r := by
  unfold listQ
  rw [hg]
  unfold addK
  by_cases hl : l = []
  · subst hl
    simp only [if_pos, List.head?_nil]
    exact h
  · rw [if_neg hl]
    simp only [List.head?_cons, J.kids, J.kind, h, if_pos]
mutual
theorem tree_node : ∀ q : Qy, nodesOk q = true → nodeQ (tree q) = some q
  | .mk k t a b c, h => by
    simp only [nodesOk, Bool.and_eq_true] at h
    obtain ⟨⟨⟨ha, hb⟩, hc⟩, hk⟩ := h
    have zero : a.length + b.length + c.length = 0 → a = [] ∧ b = [] ∧ c = [] := by
      intro h
      exact ⟨List.length_eq_zero_iff.1 (by omega), List.length_eq_zero_iff.1 (by omega), List.length_eq_zero_iff.1 (by omega)⟩
    unfold tree
    by_cases h1 : k = 1
    · rw [if_pos h1]
      unfold nodeOk at hk
      rw [if_neg (by omega), if_pos h1] at hk
      simp only [Bool.and_eq_true, decide_eq_true_eq] at hk
      obtain ⟨rfl, rfl, rfl⟩ := zero hk.1
      rw [nodeQ_step, single_obj]
      simp [only, J.kind, J.names, h1, hk.2]
    rw [if_neg h1]
    have n1 : tTerm ≠ tAll := by decide
    have n2 : tPhrase ≠ tAll := by decide
    have n3 : tPrefix ≠ tAll := by decide
    have n4 : tPhrase ≠ tTerm := by decide
    have n5 : tPrefix ≠ tTerm := by decide
    have n6 : tPrefix ≠ tPhrase := by decide
    by_cases h2 : k = 2
    · rw [if_pos h2]
      obtain ⟨rfl, rfl, rfl⟩ := zero (nodeOk_text hk (.inl h2)).1
      rw [nodeQ_step, single_obj]
      simp [n1, wordJ, J.kind, J.text, h2]
    rw [if_neg h2]
    by_cases h3 : k = 3
    · rw [if_pos h3]
      obtain ⟨rfl, rfl, rfl⟩ := zero (nodeOk_text hk (.inr (.inl h3))).1
      rw [nodeQ_step, single_obj]
      simp [n2, n4, wordJ, J.kind, J.text, h3]
    rw [if_neg h3]
    by_cases h4 : k = 4
    · rw [if_pos h4]
      obtain ⟨rfl, rfl, rfl⟩ := zero (nodeOk_text hk (.inr (.inr h4))).1
      rw [nodeQ_step, single_obj]
      simp [n3, n5, n6, wordJ, J.kind, J.text, h4]
    rw [if_neg h4]
    have h5 : k = 5 ∧ t = [] := by
      unfold nodeOk at hk
      rw [if_neg (by omega), if_neg h1] at hk
      by_cases h5 : k = 5
      · rw [if_pos h5] at hk; exact ⟨h5, by simpa using hk⟩
      · rw [if_neg h5] at hk; cases hk
    obtain ⟨K, hK⟩ : ∃ K, K = J.mk 6 false [] (addN tMust (treeL a) ++ addN tShould (treeL b) ++ addN tNot (treeL c)) (addK (treeL a) ++ addK (treeL b) ++ addK (treeL c)) := ⟨_, rfl⟩
    obtain ⟨g1, g2, g3, ho⟩ := list_get (treeL a) (treeL b) (treeL c) K hK
    rw [← hK, nodeQ_step, single_obj]
    simp only
    rw [if_neg (by decide), if_neg (by decide), if_neg (by decide), if_neg (by decide), if_pos ⟨trivial, ho⟩]
    unfold listsQ
    rw [listQ_add g1 (treeL_node a ha), listQ_add g2 (treeL_node b hb), listQ_add g3 (treeL_node c hc)]
    simp only
    rw [h5.1, h5.2]
theorem treeL_node : ∀ l : List Qy, nodesOkK l = true → allQ nodeQ (treeL l) = some l
  | [], _ => by simp [treeL, allQ]
  | q :: l, h => by
    simp only [nodesOkK, Bool.and_eq_true] at h
    simp only [treeL, allQ]
    rw [tree_node q h.1, treeL_node l h.2]
end
theorem right_parts {q : Qy} (h : right q = true) : count q ≤ 100 ∧ deep q ≤ 20 ∧ nodesOk q = true := by
  unfold right at h
  simp only [Bool.and_eq_true, decide_eq_true_eq] at h
  exact ⟨h.1.1, h.1.2, h.2⟩
/-- The law of a query that is written, and searched for. -/
theorem back_search {q : Qy} (h : right q = true) (hd : deep q ≤ 6) (hl : (queryB q).length ≤ 90000) :
    search ([123, 34, 113, 117, 101, 114, 121, 34, 58] ++ queryB q ++ [125]) = .ok (q, 0, 10) := by
  obtain ⟨hc, _, hn⟩ := right_parts h
  have hr : Cx.right 1 (tree q) = true := tree_right q 1 hn (by omega)
  have hr0 : Cx.right 0 (tree q) = true := tree_right q 0 hn (by omega)
  have hnd := tree_nodes q
  have hq : queryB q = Cx.pr (tree q) := by
    unfold queryB Cx.print Cx.Right
    rw [if_pos h, if_pos (by simp [hr0]; omega)]
  rw [hq] at hl ⊢
  have hR : Cx.Right (objJ tQuery (tree q)) = true := by
    simp only [Cx.Right, Bool.and_eq_true, decide_eq_true_eq]
    refine ⟨by simp only [objJ, Cx.nodes, Cx.nodesK]; omega, objJ_right (by decide +kernel) (by decide) hr⟩
  have e1 : Cx.jtext tQuery = [34, 113, 117, 101, 114, 121, 34] := by decide +kernel
  have hpr : Cx.pr (objJ tQuery (tree q)) = [123, 34, 113, 117, 101, 114, 121, 34, 58] ++ Cx.pr (tree q) ++ [125] := by
    simp [objJ, Cx.pr, Cx.prK, e1]
  have hp := Cx.parse_pr hR (by rw [hpr]; simp only [List.length_append, List.length_cons, List.length_nil]; omega)
  rw [hpr] at hp
  have g1 : Cx.get (objJ tQuery (tree q)) tFrom = none := by simp [objJ, Cx.get, tFrom, tQuery]
  have g2 : Cx.get (objJ tQuery (tree q)) tSize = none := by simp [objJ, Cx.get, tSize, tQuery]
  have g3 : Cx.get (objJ tQuery (tree q)) tQuery = some (tree q) := by simp [objJ, Cx.get]
  have o : only (objJ tQuery (tree q)) [tQuery, tFrom, tSize] = true := by simp [objJ, only, J.kind, J.names]
  unfold search
  rw [hp]
  simp only
  unfold number
  rw [g1, g2, g3]
  simp only
  rw [tree_node q hn]
  simp only
  rw [if_pos ⟨o, h⟩]
/-! ### Lines of ops -/
def docJ (i t : Bytes) : J := .mk 6 false [] [tId, tText] [wordJ i, wordJ t]
def lineJ (o : Op) : J := if o.del then objJ tDelete (objJ tId (wordJ o.id)) else objJ tIndex (docJ o.id o.text)
/-- A document's text; an op's line. -/
def docB (i t : Bytes) : Bytes := [123, 34, 105, 100, 34, 58] ++ Cx.jtext i ++ [44, 34, 116, 101, 120, 116, 34, 58] ++ Cx.jtext t ++ [125]
def lineB (o : Op) : Bytes := if o.del then [123, 34, 100, 101, 108, 101, 116, 101, 34, 58, 123, 34, 105, 100, 34, 58] ++ Cx.jtext o.id ++ [125, 125] else [123, 34, 105, 110, 100, 101, 120, 34, 58] ++ docB o.id o.text ++ [125]
theorem docJ_pr (i t : Bytes) : Cx.pr (docJ i t) = docB i t := by
  have e1 : Cx.jtext tId = [34, 105, 100, 34] := by decide +kernel
  have e2 : Cx.jtext tText = [34, 116, 101, 120, 116, 34] := by decide +kernel
  simp [docJ, docB, wordJ, Cx.pr, Cx.prK, e1, e2]
theorem lineJ_pr (o : Op) : Cx.pr (lineJ o) = lineB o := by
  have e1 : Cx.jtext tId = [34, 105, 100, 34] := by decide +kernel
  have e2 : Cx.jtext tText = [34, 116, 101, 120, 116, 34] := by decide +kernel
  have e3 : Cx.jtext tDelete = [34, 100, 101, 108, 101, 116, 101, 34] := by decide +kernel
  have e4 : Cx.jtext tIndex = [34, 105, 110, 100, 101, 120, 34] := by decide +kernel
  unfold lineJ lineB
  by_cases h : o.del = true
  · rw [if_pos h, if_pos h]; simp [objJ, wordJ, Cx.pr, Cx.prK, e1, e3]
  · rw [if_neg h, if_neg h, ← docJ_pr]; simp [objJ, docJ, wordJ, Cx.pr, Cx.prK, e1, e2, e4]
theorem wordJ_right {e : Nat} {t : Bytes} (hv : Cx.valid t = true) : Cx.right e (wordJ t) = true := by simp [wordJ, Cx.right, hv]
theorem docJ_right {d : Nat} {i t : Bytes} (hd : d < 20) (hi : Cx.valid i = true) (ht : Cx.valid t = true) : Cx.right d (docJ i t) = true := by
  have hn : Cx.namesOk [] [tId, tText] = true := by decide +kernel
  simp [docJ, Cx.right, Cx.rightK, hd, hn, wordJ_right hi, wordJ_right ht]
theorem lineJ_right {o : Op} (hi : Cx.valid o.id = true) (ht : Cx.valid o.text = true) : Cx.Right (lineJ o) = true := by
  simp only [Cx.Right, Bool.and_eq_true, decide_eq_true_eq]
  unfold lineJ
  by_cases h : o.del = true
  · rw [if_pos h]
    exact ⟨by simp [objJ, wordJ, Cx.nodes, Cx.nodesK], objJ_right (by decide +kernel) (by decide) (objJ_right (by decide +kernel) (by decide) (wordJ_right hi))⟩
  · rw [if_neg h]
    exact ⟨by simp [objJ, docJ, wordJ, Cx.nodes, Cx.nodesK], objJ_right (by decide +kernel) (by decide) (docJ_right (by decide) hi ht)⟩
def plainOp (o : Op) : Op := if o.del then ⟨true, o.id, []⟩ else o
theorem lineJ_op (o : Op) : op (lineJ o) = some (plainOp o) := by
  unfold lineJ plainOp
  by_cases h : o.del = true
  · rw [if_pos h, if_pos h]
    unfold op
    rw [single_obj]
    have ht : textOf (objJ tId (wordJ o.id)) tId = some o.id := by simp [textOf, objJ, wordJ, Cx.get, J.kind, J.text]
    have ho : only (objJ tId (wordJ o.id)) [tId] = true := by simp [only, objJ, J.kind, J.names]
    simp only [ht]
    rw [if_pos trivial, if_pos ho]
  · rw [if_neg h, if_neg h]
    unfold op
    rw [single_obj]
    have ht : textOf (docJ o.id o.text) tId = some o.id := by simp [textOf, docJ, wordJ, Cx.get, J.kind, J.text]
    have ht2 : textOf (docJ o.id o.text) tText = some o.text := by simp [textOf, docJ, wordJ, Cx.get, J.kind, J.text, tId, tText, List.idxOf, List.findIdx, List.findIdx.go]
    have ho : only (docJ o.id o.text) [tId, tText] = true := by simp [only, docJ, J.kind, J.names]
    simp only [ht]
    rw [if_neg (by decide)]
    simp only [ht2]
    rw [if_pos ⟨trivial, ho⟩]
    have : o.del = false := by simpa using h
    cases o; simp_all
theorem docB_length (i t : Bytes) : (docB i t).length ≤ 6 * i.length + 6 * t.length + 20 := by
  have h1 := Cx.jtext_length i; have h2 := Cx.jtext_length t
  simp only [docB, List.length_append, List.length_cons, List.length_nil]; omega
theorem lineB_length (o : Op) : (lineB o).length ≤ 6 * o.id.length + 6 * o.text.length + 40 := by
  have h1 := Cx.jtext_length o.id; have h2 := docB_length o.id o.text
  unfold lineB
  split <;> simp only [List.length_append, List.length_cons, List.length_nil] <;> omega
theorem lineB_parse {o : Op} (hi : Cx.valid o.id = true) (ht : Cx.valid o.text = true) (h1 : o.id.length ≤ 300) (h2 : o.text.length ≤ 1000) : Cx.parse (lineB o) = .ok (lineJ o) := by
  have := Cx.parse_pr (lineJ_right hi ht) (by rw [lineJ_pr]; have := lineB_length o; omega)
  rw [lineJ_pr] at this
  exact this
theorem lineB_plain {o : Op} (hi : Cx.valid o.id = true) (ht : Cx.valid o.text = true) : (10 : UInt8) ∉ lineB o ∧ lineB o ≠ [] ∧ lineB o ≠ [13] := by
  have hr := lineJ_right hi ht
  simp only [Cx.Right, Bool.and_eq_true] at hr
  have hp := pr_printable _ _ hr.2
  have hne := Cx.pr_ne hr.2
  rw [lineJ_pr] at hp hne
  exact ⟨not_feed hp, hne, fun e => not_return hp (by rw [e]; simp)⟩
def linesB : List Op → Bytes
  | [] => []
  | o :: l => lineB o ++ 10 :: linesB l
theorem linesB_snoc (o : Op) : ∀ l : List Op, linesB (l ++ [o]) = linesB l ++ (lineB o ++ [10])
  | [] => by simp [linesB]
  | p :: l => by simp [linesB, linesB_snoc o l]
/-- An op that is right: valid texts that are not too long. -/
def okOp (o : Op) : Prop := Cx.valid o.id = true ∧ Cx.valid o.text = true ∧ o.id.length ≤ 300 ∧ o.text.length ≤ 1000
/-- The law of lines that are written. -/
theorem back_bulk : ∀ l : List Op, (∀ o ∈ l, okOp o) → bulk (linesB l) = .ok (l.map plainOp)
  | [], _ => by
    unfold bulk linesB
    rw [lines_one (by decide)]
    unfold bulkL
    rw [if_pos (.inl rfl)]; rfl
  | o :: l, h => by
    have ih := back_bulk l (fun p hp => h p (by simp [hp]))
    obtain ⟨hi, ht, h1, h2⟩ := h o (by simp)
    obtain ⟨n10, hne, h13⟩ := lineB_plain hi ht
    unfold linesB
    rw [bulk_app, ih]
    have : bulk (lineB o) = .ok [plainOp o] := by
      unfold bulk
      rw [lines_one n10]
      unfold bulkL
      rw [if_neg (by simp [hne, h13]), lineB_parse hi ht h1 h2]
      simp only [lineJ_op]
      rfl
    rw [this]
    simp
end Dx
namespace Dx
open Cx (Bytes J)
/-- A value that is right within some depth. -/
def Rt (v : J) : Prop := ∃ d, Cx.right d v = true
theorem rightK_mem {k : J} {d : Nat} : ∀ {l : List J}, Cx.rightK d l = true → k ∈ l → Cx.right d k = true
  | [], _, h => by simp at h
  | a :: l, h, hm => by
    unfold Cx.rightK at h
    simp only [Bool.and_eq_true] at h
    rcases List.mem_cons.1 hm with rfl | hm
    · exact h.1
    · exact rightK_mem h.2 hm
theorem Rt.kid {v k : J} (h : Rt v) (hk : k ∈ v.kids) : Rt k := by
  obtain ⟨d, h⟩ := h
  cases v with
  | mk kd is t ns ks =>
    have hk' : k ∈ ks := hk
    have hne : ks.isEmpty = false := by cases ks with
      | nil => simp at hk'
      | cons => rfl
    unfold Cx.right at h
    split at h
    · simp [hne] at h
    split at h
    · simp [hne] at h
    split at h
    · simp [hne] at h
    split at h
    · simp [hne] at h
    split at h
    · simp only [Bool.and_eq_true] at h; exact ⟨d + 1, rightK_mem h.2 hk'⟩
    split at h
    · simp only [Bool.and_eq_true] at h; exact ⟨d + 1, rightK_mem h.2 hk'⟩
    · simp at h
theorem Rt.names {v : J} (h : Rt v) (hk : v.kind = 6) : v.names.length = v.kids.length := by
  obtain ⟨d, h⟩ := h
  cases v with
  | mk kd is t ns ks =>
    have hk' : kd = 6 := hk
    subst hk'
    unfold Cx.right at h
    simp only [show ¬ ((6 : Int) = 1) by decide, show ¬ ((6 : Int) = 2) by decide, show ¬ ((6 : Int) = 3) by decide, show ¬ ((6 : Int) = 4) by decide, show ¬ ((6 : Int) = 5) by decide, if_false, if_true, Bool.and_eq_true, decide_eq_true_eq] at h
    exact h.1.1.1.1.1
theorem Rt.parse {s : Bytes} {v : J} (h : Cx.parse s = .ok v) : Rt v := by
  have := Cx.parse_right h
  unfold Cx.Right at this
  simp only [Bool.and_eq_true] at this
  exact ⟨0, this.2⟩
theorem fit_kid {L : Nat} {k : J} : ∀ {l : List J}, Cx.fitK L l → k ∈ l → Cx.fit L k
  | [], _, h => by simp at h
  | a :: l, hf, h => by
    unfold Cx.fitK at hf
    rcases List.mem_cons.1 h with rfl | h
    · exact hf.1
    · exact fit_kid hf.2 h
theorem get_right {v k : J} {n : Bytes} (h : Rt v) (hg : Cx.get v n = some k) : Rt k := h.kid (get_mem hg)
theorem get_fit {L : Nat} {v k : J} {n : Bytes} (h : Cx.fit L v) (hg : Cx.get v n = some k) : Cx.fit L k := by
  have hm := get_mem hg
  cases v with
  | mk kd is t ns ks => exact fit_kid h.2.2.2.2 hm
end Dx
namespace Dx
open Cx (Bytes J)
mutual
/-- All texts are at most so long. -/
def qfit (M : Nat) : Qy → Prop
  | .mk _ t a b c => t.length ≤ M ∧ qfitK M a ∧ qfitK M b ∧ qfitK M c
def qfitK (M : Nat) : List Qy → Prop
  | [] => True
  | q :: l => qfit M q ∧ qfitK M l
end
theorem qfitK_mem {M : Nat} {q : Qy} : ∀ {l : List Qy}, qfitK M l → q ∈ l → qfit M q
  | [], _, h => by simp at h
  | a :: l, hf, h => by
    unfold qfitK at hf
    rcases List.mem_cons.1 h with rfl | h
    · exact hf.1
    · exact qfitK_mem hf.2 h
theorem fit_text {L : Nat} {v : J} (h : Cx.fit L v) : v.text.length ≤ L := by
  cases v with
  | mk k is t ns ks => exact h.1
theorem fit_kids {L : Nat} {v k : J} (h : Cx.fit L v) (hk : k ∈ v.kids) : Cx.fit L k := by
  cases v with
  | mk kd is t ns ks => exact fit_kid h.2.2.2.2 hk
theorem nodesK_kids (v : J) : Cx.nodes v = 1 + Cx.nodesK v.kids := by
  cases v with
  | mk kd is t ns ks => rfl
theorem allQ_size {L : Nat} {f : J → Option Qy} : ∀ {l : List J} {r : List Qy}, (∀ x ∈ l, ∀ q, f x = some q → count q ≤ Cx.nodes x ∧ qfit L q) → allQ f l = some r → countK r ≤ Cx.nodesK l ∧ qfitK L r
  | [], r, _, h => by simp only [allQ, Option.some.injEq] at h; subst h; simp [countK, qfitK]
  | k :: l, r, hf, h => by
    simp only [allQ] at h
    cases h1 : f k with
    | none => rw [h1] at h; cases h
    | some q =>
      cases h2 : allQ f l with
      | none => rw [h1, h2] at h; cases h
      | some r' =>
        rw [h1, h2] at h
        injection h with h
        subst h
        have a := hf k (by simp) q h1
        have b := allQ_size (fun x hx => hf x (by simp [hx])) h2
        simp only [countK, qfitK, Cx.nodesK]
        exact ⟨by omega, a.2, b.2⟩
theorem listQ_size {L : Nat} {f : J → Option Qy} {v : J} {n : Bytes} {r : List Qy} (hf : ∀ k ∈ v.kids, ∀ x ∈ k.kids, ∀ q, f x = some q → count q ≤ Cx.nodes x ∧ qfit L q) (h : listQ f v n = some r) :
    (Cx.get v n = none ∧ r = [] ∨ ∃ k, Cx.get v n = some k ∧ countK r < Cx.nodes k) ∧ qfitK L r := by
  unfold listQ at h
  cases hg : Cx.get v n with
  | none =>
    rw [hg] at h
    simp only [Option.some.injEq] at h
    subst h
    exact ⟨.inl ⟨rfl, rfl⟩, by simp [qfitK]⟩
  | some k =>
    rw [hg] at h
    simp only at h
    cases ha : allQ f k.kids with
    | none => rw [ha] at h; cases h
    | some l =>
      rw [ha] at h
      simp only at h
      by_cases h5 : k.kind = 5
      · rw [if_pos h5] at h
        injection h with h
        subst h
        have := allQ_size (hf k (get_mem hg)) ha
        refine ⟨.inr ⟨k, rfl, ?_⟩, this.2⟩
        rw [nodesK_kids]; omega
      · rw [if_neg h5] at h; cases h
/-- Three names of an object that are not one: what stands behind them is no more than all. -/
theorem three_kids {v : J} {n1 n2 n3 : Bytes} {a b c : Nat} (h12 : n1 ≠ n2) (h13 : n1 ≠ n3) (h23 : n2 ≠ n3)
    (h1 : Cx.get v n1 = none ∧ a = 0 ∨ ∃ k, Cx.get v n1 = some k ∧ a < Cx.nodes k) (h2 : Cx.get v n2 = none ∧ b = 0 ∨ ∃ k, Cx.get v n2 = some k ∧ b < Cx.nodes k) (h3 : Cx.get v n3 = none ∧ c = 0 ∨ ∃ k, Cx.get v n3 = some k ∧ c < Cx.nodes k) :
    a + b + c ≤ Cx.nodesK v.kids := by
  cases v with
  | mk kd is t ns ks =>
    have key : ∀ (n : Bytes) (x : Nat), (Cx.get (.mk kd is t ns ks) n = none ∧ x = 0 ∨ ∃ k, Cx.get (.mk kd is t ns ks) n = some k ∧ x < Cx.nodes k) → x = 0 ∨ (n ∈ ns ∧ ∃ k, ks[ns.idxOf n]? = some k ∧ x < Cx.nodes k) := by
      intro n x h
      rcases h with h | ⟨k, h, hx⟩
      · exact .inl h.2
      · right
        have h : (if kd = 6 ∧ n ∈ ns then ks[ns.idxOf n]? else none) = some k := h
        by_cases hc : kd = 6 ∧ n ∈ ns
        · rw [if_pos hc] at h; exact ⟨hc.2, k, h, hx⟩
        · rw [if_neg hc] at h; cases h
    have ne : ∀ n m : Bytes, n ≠ m → n ∈ ns → m ∈ ns → ns.idxOf n ≠ ns.idxOf m := by
      intro n m h hn hm e
      have h1 := List.getElem_idxOf (List.idxOf_lt_length_of_mem hn)
      have h2 := List.getElem_idxOf (List.idxOf_lt_length_of_mem hm)
      apply h
      rw [← h1, ← h2]
      congr 1
    show a + b + c ≤ Cx.nodesK ks
    -- sums over different places
    have one : ∀ (ks : List J) (i : Nat) (k : J) (x : Nat), ks[i]? = some k → x < Cx.nodes k → x + Cx.nodesK (ks.take i) + Cx.nodesK (ks.drop (i + 1)) ≤ Cx.nodesK ks := by
      intro ks
      induction ks with
      | nil => intro i k x h; simp at h
      | cons y ks ih =>
        intro i k x h hx
        cases i with
        | zero => simp only [List.getElem?_cons_zero, Option.some.injEq] at h; subst h; simp [Cx.nodesK]; omega
        | succ i =>
          simp only [List.getElem?_cons_succ] at h
          have := ih i k x h hx
          simp only [List.take_succ_cons, List.drop_succ_cons, Cx.nodesK]; omega
    have app : ∀ l m : List J, Cx.nodesK (l ++ m) = Cx.nodesK l + Cx.nodesK m := by
      intro l m; induction l with
      | nil => simp [Cx.nodesK]
      | cons x l ih => simp [Cx.nodesK, ih]; omega
    -- the sum of a weight over the places
    have sum : ∀ (ks : List J) (f : Nat → Nat), (∀ i k, ks[i]? = some k → f i ≤ Cx.nodes k) → ((List.range ks.length).map f).sum ≤ Cx.nodesK ks := by
      intro ks
      induction ks with
      | nil => intro f _; simp [Cx.nodesK]
      | cons y ks ih =>
        intro f hf
        have h0 := hf 0 y rfl
        have := ih (fun i => f (i + 1)) (fun i k h => hf (i + 1) k (by simpa using h))
        rw [List.length_cons, List.range_succ_eq_map, List.map_cons, List.map_map, List.sum_cons]
        simp only [Cx.nodesK]
        have e : ((List.range ks.length).map (f ∘ Nat.succ)).sum = ((List.range ks.length).map fun i => f (i + 1)).sum := rfl
        omega
    have pick : ∀ (n : Nat) (i x : Nat), i < n → ((List.range n).map fun j => if j = i then x else 0).sum = x := by
      intro n
      induction n with
      | zero => intro i x h; omega
      | succ n ih =>
        intro i x h
        rw [List.range_succ, List.map_append, List.sum_append]
        by_cases hi : i = n
        · subst hi
          have z : ((List.range i).map fun j => if j = i then x else 0).sum = 0 := by
            have : ∀ m, m ≤ i → ((List.range m).map fun j => if j = i then x else 0).sum = 0 := by
              intro m
              induction m with
              | zero => intro _; rfl
              | succ m ihm => intro hm; rw [List.range_succ, List.map_append, List.sum_append, ihm (by omega)]; simp; omega
            exact this i (Nat.le_refl _)
          rw [z]; simp
        · rw [ih i x (by omega)]; simp; omega
    have add : ∀ (n : Nat) (f g : Nat → Nat), ((List.range n).map fun j => f j + g j).sum = ((List.range n).map f).sum + ((List.range n).map g).sum := by
      intro n f g
      induction n with
      | zero => rfl
      | succ n ih => simp only [List.range_succ, List.map_append, List.sum_append, ih, List.map_cons, List.map_nil, List.sum_cons, List.sum_nil]; omega
    have zero : ∀ (n i : Nat), ((List.range n).map fun j => if j = i then 0 else 0).sum = 0 := by
      intro n i
      induction n with
      | zero => rfl
      | succ n ih => rw [List.range_succ, List.map_append, List.sum_append, ih]; simp
    -- each of the three has a place, or is none
    obtain ⟨i1, k1, e1⟩ : ∃ i x, (x = a ∧ i < ks.length ∧ ∃ k, ks[i]? = some k ∧ a < Cx.nodes k ∧ i = ns.idxOf n1 ∧ n1 ∈ ns) ∨ (a = 0 ∧ x = 0 ∧ i = 0) := by
      rcases key n1 a h1 with h | ⟨hm, k, hk, hx⟩
      · exact ⟨0, 0, .inr ⟨h, rfl, rfl⟩⟩
      · exact ⟨_, a, .inl ⟨rfl, (List.getElem?_eq_some_iff.1 hk).1, k, hk, hx, rfl, hm⟩⟩
    obtain ⟨i2, k2, e2⟩ : ∃ i x, (x = b ∧ i < ks.length ∧ ∃ k, ks[i]? = some k ∧ b < Cx.nodes k ∧ i = ns.idxOf n2 ∧ n2 ∈ ns) ∨ (b = 0 ∧ x = 0 ∧ i = 0) := by
      rcases key n2 b h2 with h | ⟨hm, k, hk, hx⟩
      · exact ⟨0, 0, .inr ⟨h, rfl, rfl⟩⟩
      · exact ⟨_, b, .inl ⟨rfl, (List.getElem?_eq_some_iff.1 hk).1, k, hk, hx, rfl, hm⟩⟩
    obtain ⟨i3, k3, e3⟩ : ∃ i x, (x = c ∧ i < ks.length ∧ ∃ k, ks[i]? = some k ∧ c < Cx.nodes k ∧ i = ns.idxOf n3 ∧ n3 ∈ ns) ∨ (c = 0 ∧ x = 0 ∧ i = 0) := by
      rcases key n3 c h3 with h | ⟨hm, k, hk, hx⟩
      · exact ⟨0, 0, .inr ⟨h, rfl, rfl⟩⟩
      · exact ⟨_, c, .inl ⟨rfl, (List.getElem?_eq_some_iff.1 hk).1, k, hk, hx, rfl, hm⟩⟩
    have hs := sum ks (fun j => (if j = i1 then k1 else 0) + ((if j = i2 then k2 else 0) + (if j = i3 then k3 else 0))) (by
      intro i k hk
      have d12 : k1 = 0 ∨ k2 = 0 ∨ i1 ≠ i2 := by
        rcases e1 with ⟨_, _, _, _, _, x1, m1⟩ | ⟨_, h, _⟩
        · rcases e2 with ⟨_, _, _, _, _, x2, m2⟩ | ⟨_, h, _⟩
          · right; right; rw [x1, x2]; exact ne n1 n2 h12 m1 m2
          · exact .inr (.inl h)
        · exact .inl h
      have d13 : k1 = 0 ∨ k3 = 0 ∨ i1 ≠ i3 := by
        rcases e1 with ⟨_, _, _, _, _, x1, m1⟩ | ⟨_, h, _⟩
        · rcases e3 with ⟨_, _, _, _, _, x2, m2⟩ | ⟨_, h, _⟩
          · right; right; rw [x1, x2]; exact ne n1 n3 h13 m1 m2
          · exact .inr (.inl h)
        · exact .inl h
      have d23 : k2 = 0 ∨ k3 = 0 ∨ i2 ≠ i3 := by
        rcases e2 with ⟨_, _, _, _, _, x1, m1⟩ | ⟨_, h, _⟩
        · rcases e3 with ⟨_, _, _, _, _, x2, m2⟩ | ⟨_, h, _⟩
          · right; right; rw [x1, x2]; exact ne n2 n3 h23 m1 m2
          · exact .inr (.inl h)
        · exact .inl h
      have b1 : i = i1 → k1 ≤ Cx.nodes k := by
        intro hi
        rcases e1 with ⟨hx, _, k', hk', hl, _⟩ | ⟨_, h, _⟩
        · rw [← hi, hk] at hk'; injection hk' with hk'; rw [hx, hk']; omega
        · omega
      have b2 : i = i2 → k2 ≤ Cx.nodes k := by
        intro hi
        rcases e2 with ⟨hx, _, k', hk', hl, _⟩ | ⟨_, h, _⟩
        · rw [← hi, hk] at hk'; injection hk' with hk'; rw [hx, hk']; omega
        · omega
      have b3 : i = i3 → k3 ≤ Cx.nodes k := by
        intro hi
        rcases e3 with ⟨hx, _, k', hk', hl, _⟩ | ⟨_, h, _⟩
        · rw [← hi, hk] at hk'; injection hk' with hk'; rw [hx, hk']; omega
        · omega
      have q1 : ¬ i = i1 ∨ k1 ≤ Cx.nodes k := by by_cases h : i = i1; exact .inr (b1 h); exact .inl h
      have q2 : ¬ i = i2 ∨ k2 ≤ Cx.nodes k := by by_cases h : i = i2; exact .inr (b2 h); exact .inl h
      have q3 : ¬ i = i3 ∨ k3 ≤ Cx.nodes k := by by_cases h : i = i3; exact .inr (b3 h); exact .inl h
      clear b1 b2 b3 e1 e2 e3 hk h1 h2 h3
      generalize Cx.nodes k = N at *
      show (if i = i1 then k1 else 0) + ((if i = i2 then k2 else 0) + (if i = i3 then k3 else 0)) ≤ N
      by_cases c1 : i = i1 <;> by_cases c2 : i = i2 <;> by_cases c3 : i = i3 <;> (first | rw [if_pos c1] | rw [if_neg c1]) <;> (first | rw [if_pos c2] | rw [if_neg c2]) <;> (first | rw [if_pos c3] | rw [if_neg c3]) <;> omega)
    rw [add, add] at hs
    have p1 : ((List.range ks.length).map fun j => if j = i1 then k1 else 0).sum = a := by
      rcases e1 with ⟨hx, hl, _⟩ | ⟨h, hx, _⟩
      · rw [pick _ _ _ hl, hx]
      · rw [hx, h]; exact zero _ _
    have p2 : ((List.range ks.length).map fun j => if j = i2 then k2 else 0).sum = b := by
      rcases e2 with ⟨hx, hl, _⟩ | ⟨h, hx, _⟩
      · rw [pick _ _ _ hl, hx]
      · rw [hx, h]; exact zero _ _
    have p3 : ((List.range ks.length).map fun j => if j = i3 then k3 else 0).sum = c := by
      rcases e3 with ⟨hx, hl, _⟩ | ⟨h, hx, _⟩
      · rw [pick _ _ _ hl, hx]
      · rw [hx, h]; exact zero _ _
    omega
theorem node_size {L : Nat} : ∀ (n : Nat) (v : J) (q : Qy), Cx.fit L v → node n v = some q → count q ≤ Cx.nodes v ∧ qfit L q
  | 0, _, _, _, h => by simp [node] at h
  | n + 1, v, q, hf, h => by
    have hv := nodesK_kids v
    unfold node at h
    cases hs : single v with
    | none => rw [hs] at h; cases h
    | some p =>
      obtain ⟨m, k⟩ := p
      have hk := single_kid hs
      have hfk := fit_kids hf hk
      have hft := fit_text hfk
      rw [hs] at h
      simp only at h
      split at h
      · split at h
        · injection h with h; subst h; simp [count, countK, qfit, qfitK, hv]
        · cases h
      split at h
      · split at h
        · injection h with h; subst h; simp [count, countK, qfit, qfitK, hv, hft]
        · cases h
      split at h
      · split at h
        · injection h with h; subst h; simp [count, countK, qfit, qfitK, hv, hft]
        · cases h
      split at h
      · split at h
        · injection h with h; subst h; simp [count, countK, qfit, qfitK, hv, hft]
        · cases h
      split at h
      · unfold listsQ at h
        have hsub : ∀ x ∈ k.kids, ∀ y ∈ x.kids, ∀ q, node n y = some q → count q ≤ Cx.nodes y ∧ qfit L q :=
          fun x hx y hy q hq => node_size n y q (fit_kids (fit_kids hfk hx) hy) hq
        cases h1 : listQ (node n) k tMust with
        | none => rw [h1] at h; cases h
        | some a =>
          cases h2 : listQ (node n) k tShould with
          | none => rw [h1, h2] at h; cases h
          | some b =>
            cases h3 : listQ (node n) k tNot with
            | none => rw [h1, h2, h3] at h; cases h
            | some c =>
              rw [h1, h2, h3] at h
              injection h with h
              subst h
              obtain ⟨g1, f1⟩ := listQ_size hsub h1
              obtain ⟨g2, f2⟩ := listQ_size hsub h2
              obtain ⟨g3, f3⟩ := listQ_size hsub h3
              have z : ∀ {l : List Qy}, l = [] → countK l = 0 := by rintro l rfl; rfl
              have := three_kids (v := k) (n1 := tMust) (n2 := tShould) (n3 := tNot) (by decide) (by decide) (by decide) (g1.imp (fun h => ⟨h.1, z h.2⟩) id) (g2.imp (fun h => ⟨h.1, z h.2⟩) id) (g3.imp (fun h => ⟨h.1, z h.2⟩) id)
              have hkn := nodesK_kids k
              have hkm := nodesK_mem hk
              refine ⟨by simp only [count]; omega, ?_⟩
              unfold qfit
              exact ⟨by simp, f1, f2, f3⟩
      · cases h
theorem nodeQ_size {L : Nat} {v : J} {q : Qy} (hf : Cx.fit L v) (h : nodeQ v = some q) : count q ≤ Cx.nodes v ∧ qfit L q := node_size _ v q hf h
end Dx
namespace Cx
mutual
/-- Right but for texts, that may be any. -/
def rx : Nat → J → Bool
  | d, .mk k is t ns ks =>
    if k = 4 then !is && decide (ns = []) && ks.isEmpty
    else if k = 5 then decide (ns = []) && decide (t = []) && !is && decide (d < 20) && rxK (d + 1) ks
    else if k = 6 then decide (ns.length = ks.length) && namesOk [] ns && decide (t = []) && !is && decide (d < 20) && rxK (d + 1) ks
    else right d (.mk k is t ns ks)
def rxK : Nat → List J → Bool
  | _, [] => true
  | d, k :: ks => rx d k && rxK d ks
end
mutual
/-- Are its texts valid? -/
def good : J → Bool
  | .mk k _ t _ ks => if k = 4 then valid t else if k = 5 ∨ k = 6 then goodK ks else true
def goodK : List J → Bool
  | [] => true
  | k :: ks => good k && goodK ks
end
mutual
theorem rx_right : ∀ (v : J) (d : Nat), rx d v = true → good v = true → right d v = true
  | .mk k is t ns ks, d, h, hg => by
    unfold rx at h
    unfold good at hg
    by_cases h4 : k = 4
    · subst h4
      rw [if_pos rfl] at h hg
      unfold right
      simp only [Bool.and_eq_true, show ¬ ((4 : Int) = 1) by decide, show ¬ ((4 : Int) = 2) by decide, show ¬ ((4 : Int) = 3) by decide, if_false, if_true] at h ⊢
      exact ⟨h, hg⟩
    rw [if_neg h4] at h hg
    by_cases h5 : k = 5
    · subst h5
      rw [if_pos rfl] at h
      rw [if_pos (.inl rfl)] at hg
      unfold right
      simp only [Bool.and_eq_true, show ¬ ((5 : Int) = 1) by decide, show ¬ ((5 : Int) = 2) by decide, show ¬ ((5 : Int) = 3) by decide, show ¬ ((5 : Int) = 4) by decide, if_false, if_true] at h ⊢
      exact ⟨h.1, rxK_right ks (d + 1) h.2 hg⟩
    rw [if_neg h5] at h
    by_cases h6 : k = 6
    · subst h6
      rw [if_pos rfl] at h
      rw [if_pos (.inr rfl)] at hg
      unfold right
      simp only [Bool.and_eq_true, show ¬ ((6 : Int) = 1) by decide, show ¬ ((6 : Int) = 2) by decide, show ¬ ((6 : Int) = 3) by decide, show ¬ ((6 : Int) = 4) by decide, show ¬ ((6 : Int) = 5) by decide, if_false, if_true] at h ⊢
      exact ⟨h.1, rxK_right ks (d + 1) h.2 hg⟩
    rw [if_neg h6] at h
    exact h
theorem rxK_right : ∀ (ks : List J) (d : Nat), rxK d ks = true → goodK ks = true → rightK d ks = true
  | [], _, _, _ => by unfold rightK; rfl
  | k :: ks, d, h, hg => by
    unfold rxK at h
    unfold goodK at hg
    unfold rightK
    simp only [Bool.and_eq_true] at h hg ⊢
    exact ⟨rx_right k d h.1 hg.1, rxK_right ks d h.2 hg.2⟩
end
theorem rx_starts {v : J} {d : Nat} (h : rx d v = true) : ∃ c r, pr v = c :: r ∧ starts c = true := by
  cases v with
  | mk k is t ns ks =>
    unfold rx at h
    by_cases h4 : k = 4
    · subst h4; exact ⟨34, _, by simp [pr, jtext]; rfl, by decide⟩
    rw [if_neg h4] at h
    by_cases h5 : k = 5
    · subst h5; exact ⟨91, _, by simp [pr]; rfl, by decide⟩
    rw [if_neg h5] at h
    by_cases h6 : k = 6
    · subst h6; exact ⟨123, _, by simp [pr]; rfl, by decide⟩
    rw [if_neg h6] at h
    exact shows_starts h (shows_pr _ d h)
theorem prK_ends {obj : Bool} {ns : List Bytes} {ks : List J} {r : Bytes} (hr : ends (r.headD 0)) : ends ((prK obj false ns ks ++ r).headD 0) := by
  cases ks with
  | nil => unfold prK; exact hr
  | cons k ks => unfold prK; exact ends_comma
theorem prK_cons (obj first : Bool) (ns : List Bytes) (k : J) (ks : List J) : prK obj first ns (k :: ks) = (if first then [] else [44]) ++ ((if obj then jtext (ns.headD []) ++ [58] else []) ++ (pr k ++ prK obj false ns.tail ks)) := by
  conv => lhs; unfold prK
set_option maxHeartbeats 2000000 in
mutual
theorem value_bad (s : Bytes) : ∀ (v : J) (d : Nat), rx d v = true → good v = false → ∀ (n i m : Nat) (r : Bytes), s.length < i + n → s.drop i = pr v ++ r →
    m + nodes v ≤ 5000 → ∃ p, value s n d i m = .error (17, p)
  | .mk k is t ns ks, d, hr, hg, n, i, m, r, hn, hd, hm => by
    obtain ⟨c, x', hx, hc⟩ := rx_starts hr
    rw [hx] at hd
    have hi : i < s.length := drop_lt hd
    cases n with
    | zero => omega
    | succ n =>
      have hsk : skipB s i = i := skipB_stop (by rw [peek_drop hd]; exact starts_blank hc)
      have hpk : peek s i = c := peek_drop hd
      have hnm : ¬ 5000 ≤ m := by simp only [nodes] at hm; omega
      unfold value
      simp only
      rw [hsk, hpk, if_neg (by simp [hc]), if_neg hnm]
      unfold good at hg
      unfold rx at hr
      by_cases h4 : k = 4
      · subst h4
        rw [if_pos rfl] at hg
        have hj : pr (.mk 4 is t ns ks) = 34 :: (esc t ++ [34]) := by simp [pr, jtext]
        rw [hj] at hx
        injection hx with hx1 hx2
        subst hx1
        rw [if_neg (by decide), if_neg (by decide), if_neg (by decide), if_pos rfl]
        have hd1 : s.drop (i + 1) = esc t ++ 34 :: r := by rw [drop_succ hd, ← hx2]; simp
        obtain ⟨p, he⟩ := textN_bad s t.length t (Nat.le_refl _) hg (s.length - i) (i + 1) [] r (by omega) hd1
        have ht : text s i = .error (17, p) := by
          unfold text
          rw [if_pos hpk]; exact he
        rw [ht]
        exact ⟨p, rfl⟩
      rw [if_neg h4] at hg hr
      by_cases h56 : k = 5 ∨ k = 6
      · rw [if_pos h56] at hg
        obtain ⟨obj, hobj⟩ : ∃ obj, obj = decide (k = 6) := ⟨_, rfl⟩
        have hfacts : d < 20 ∧ rxK (d + 1) ks = true ∧ (obj = true → ns.length = ks.length ∧ namesOk [] ns = true) := by
          rcases h56 with rfl | rfl
          · simp only [if_true, Bool.and_eq_true, decide_eq_true_eq] at hr
            exact ⟨hr.1.2, hr.2, fun h => by rw [h] at hobj; simp at hobj⟩
          · simp only [show ¬ ((6 : Int) = 5) by decide, if_false, if_true, Bool.and_eq_true, decide_eq_true_eq] at hr
            exact ⟨hr.1.2, hr.2, fun _ => hr.1.1.1.1⟩
        obtain ⟨hd20, hk, hns⟩ := hfacts
        have hprk : pr (.mk k is t ns ks) = (if obj then 123 else 91) :: (prK obj true ns ks ++ [if obj then 125 else 93]) := by
          rcases h56 with rfl | rfl <;> simp [pr, hobj]
        rw [hprk] at hx
        injection hx with hx1 hx2
        have hcc : c = 91 ∨ c = 123 := by rw [← hx1]; cases obj <;> simp
        have hcn : c ≠ 110 ∧ c ≠ 116 ∧ c ≠ 102 ∧ c ≠ 34 := by rcases hcc with h | h <;> rw [h] <;> decide
        rw [if_neg hcn.1, if_neg hcn.2.1, if_neg hcn.2.2.1, if_neg hcn.2.2.2, if_pos hcc, if_neg (by omega)]
        have hob : decide (c = 123) = obj := by rw [← hx1]; cases obj <;> decide
        have hd1 : s.drop (i + 1) = prK obj true ns ks ++ ((if obj then 125 else 93) :: r) := by rw [drop_succ hd, ← hx2]; simp
        cases ks with
        | nil => simp [goodK] at hg
        | cons k0 ks =>
          have hst : ∃ c1 r1, s.drop (i + 1) = c1 :: r1 ∧ isBlank c1 = false ∧ c1 ≠ (if obj then 125 else 93) := by
            unfold rxK at hk
            simp only [Bool.and_eq_true] at hk
            obtain ⟨c0, r0, h0, hc0⟩ := rx_starts hk.1
            rw [hd1]
            unfold prK
            cases obj with
            | true => exact ⟨34, _, rfl, by decide, by decide⟩
            | false =>
              simp only [if_true, Bool.false_eq_true, if_false, List.nil_append, h0]
              exact ⟨c0, _, rfl, starts_blank hc0, (starts_ne hc0).1⟩
          obtain ⟨c1, r1, hs1, hb1, hne1⟩ := hst
          have hsk1 : skipB s (i + 1) = i + 1 := skipB_stop (by rw [peek_drop hs1]; exact hb1)
          have hp1 : peek s (i + 1) = c1 := peek_drop hs1
          obtain ⟨p, hp⟩ := parts_bad s (k0 :: ks) obj ns d n (s.length + 1) (i + 1) (m + 1) [] [] r (by omega) (by omega) (by omega) (fun h => ⟨(hns h).1, (hns h).2⟩) hk hg hd20 hd1 (by simp only [nodes] at hm; omega)
          refine ⟨p, ?_⟩
          unfold group
          rw [hob, hsk1, hp1, if_neg hne1]
          exact hp
      · rw [if_neg h56] at hg; cases hg
termination_by v => sizeOf v
decreasing_by
  all_goals (subst_vars; simp; omega)
theorem parts_bad (s : Bytes) : ∀ (ks : List J) (obj : Bool) (ns : List Bytes) (d n q i m : Nat) (on : List Bytes) (ok : List J) (r : Bytes),
    s.length < i + n → s.length < i + q → i ≤ s.length →
    (obj = true → ns.length = ks.length ∧ namesOk on ns = true) → rxK (d + 1) ks = true → goodK ks = false → d < 20 →
    s.drop i = prK obj true ns ks ++ ((if obj then 125 else 93) :: r) → m + nodesK ks ≤ 5000 →
    ∃ p, parts (fun i m => value s n (d + 1) i m) s obj q i m on ok = .error (17, p)
  | [], _, _, _, _, _, _, _, _, _, _, _, _, _, _, _, hg, _, _, _ => by simp [goodK] at hg
  | k :: ks, obj, ns, d, n, q, i, m, on, ok, r, hn, hq, hi, hns, hk, hg, h20, hd, hm => by
    cases q with
    | zero => omega
    | succ q =>
    unfold rxK at hk
    unfold goodK at hg
    simp only [Bool.and_eq_true] at hk
    simp only [nodesK] at hm
    have hd' : s.drop i = (if obj then jtext (ns.headD []) ++ [58] else []) ++ (pr k ++ (prK obj false ns.tail ks ++ ((if obj then 125 else 93) :: r))) := by
      rw [hd, prK_cons]; simp
    -- the name, and the colon
    have h1 : ∃ (t : Bytes) (i1 : Nat), (if obj = true then name s on i else Except.ok ([], i)) = .ok (t, i1) ∧ i ≤ i1 ∧ i1 ≤ s.length ∧
        (obj = true → t = ns.headD [] ∧ i < i1) ∧ s.drop i1 = pr k ++ (prK obj false ns.tail ks ++ ((if obj then 125 else 93) :: r)) := by
      cases obj with
      | false => exact ⟨[], i, rfl, Nat.le_refl _, hi, by simp, by rw [hd']; simp⟩
      | true =>
        have hn := hns rfl
        cases ns with
        | nil => simp at hn
        | cons t ns =>
          simp only [namesOk, Bool.and_eq_true, Bool.not_eq_true', decide_eq_false_iff_not] at hn
          simp only [if_true, List.headD_cons, List.append_assoc] at hd' ⊢
          have hsk : skipB s i = i := skipB_stop (by rw [peek_drop (c := 34) (by rw [hd']; rfl)]; decide)
          have ht := text_back hn.2.1.1 hd'
          have hd1 := drop_add hd'
          have hd1' : s.drop (i + (jtext t).length) = 58 :: (pr k ++ (prK true false ns ks ++ (125 :: r))) := by rw [hd1]; simp
          have hsk1 : skipB s (i + (jtext t).length) = i + (jtext t).length := skipB_stop (by rw [peek_drop hd1']; decide)
          have hw : word s [58] (i + (jtext t).length) = .ok (i + (jtext t).length + 1) := word_back (by rw [hd1']; rfl)
          refine ⟨t, _, ?_, ?_, ?_, fun _ => ⟨rfl, ?_⟩, drop_succ hd1'⟩
          · unfold name
            rw [hsk, ht]; simp only
            rw [if_neg hn.2.1.2, hsk1, hw]
          · omega
          · have := drop_lt hd1'; omega
          · omega
    obtain ⟨t, i1, e1, hle1, hle2, ht, hd1⟩ := h1
    have he : ends ((prK obj false ns.tail ks ++ ((if obj then 125 else 93) :: r)).headD 0) := prK_ends (by cases obj; exact ends_square; exact ends_curly)
    unfold parts
    rw [e1]; simp only
    cases hgk : good k with
    | false =>
      obtain ⟨p, hp⟩ := value_bad s k (d + 1) hk.1 hgk n i1 m _ (by omega) hd1 (by omega)
      exact ⟨p, by rw [hp]⟩
    | true =>
      rw [hgk, Bool.true_and] at hg
      have hrk := rx_right k (d + 1) hk.1 hgk
      have e2 := value_back s k (d + 1) (pr k) hrk (shows_pr k (d + 1) hrk) n i1 m [] _ (by omega) Blanks.nil (by simpa using hd1) he (by omega)
      rw [e2]; simp only
      have hd2 := drop_add hd1
      simp only [List.length_nil, Nat.add_zero]
      cases ks with
      | nil => simp [goodK] at hg
      | cons k1 ks =>
        have hd3 : s.drop (i1 + (pr k).length) = 44 :: (prK obj true ns.tail (k1 :: ks) ++ ((if obj then 125 else 93) :: r)) := by
          rw [hd2, prK_cons, prK_cons]
          simp
        have hsk2 : skipB s (i1 + (pr k).length) = i1 + (pr k).length := skipB_stop (by rw [peek_drop hd3]; decide)
        have hp2 : peek s (i1 + (pr k).length) = 44 := peek_drop hd3
        have hlt2 := drop_lt hd3
        rw [hsk2, hp2, if_pos rfl]
        obtain ⟨c, x', hx, _⟩ := rx_starts hk.1
        have hpl : 0 < (pr k).length := by rw [hx]; simp
        exact parts_bad s (k1 :: ks) obj ns.tail d n q (i1 + (pr k).length + 1) (m + nodes k) _ _ r (by omega) (by omega) (by omega) (fun h => by
          have hn := hns h
          cases ns with
          | nil => simp at hn
          | cons t' ns =>
            simp only [namesOk, Bool.and_eq_true] at hn
            have := (ht h).1
            simp only [List.headD_cons] at this
            subst this
            subst h
            simp only [if_true, List.tail_cons]
            exact ⟨by have := hn.1; simp only [List.length_cons] at this ⊢; omega, hn.2.2⟩) hk.2 hg h20 (drop_succ hd3) (by simp only [nodesK] at hm ⊢; omega)
termination_by ks => sizeOf ks
decreasing_by
  all_goals (subst_vars; simp; omega)
end
/-- What is read of a value that is right but for its texts. -/
theorem parse_rx {v : J} (h : rx 0 v = true) (hm : nodes v ≤ 5000) (hl : (pr v).length ≤ 100000) : (good v = true → parse (pr v) = .ok v) ∧ (good v = false → ∃ p, parse (pr v) = .error (17, p)) := by
  constructor
  · intro hg
    exact parse_pr (by simp only [Right, Bool.and_eq_true, decide_eq_true_eq]; exact ⟨hm, rx_right v 0 h hg⟩) hl
  · intro hg
    obtain ⟨p, hp⟩ := value_bad (pr v) v 0 h hg ((pr v).length + 1) 0 0 [] (by omega) (by simp) (by omega)
    exact ⟨p, by unfold parse; rw [if_neg (by omega), hp]⟩
end Cx
namespace Dx
open Cx (Bytes J)
def tTotal : Bytes := [116, 111, 116, 97, 108]
def tHits : Bytes := [104, 105, 116, 115]
def tScore : Bytes := [115, 99, 111, 114, 101]
/-- A hit: a document's name, a score. -/
structure Hit where
  id : Bytes
  score : Int
def hitJ (h : Hit) : J := .mk 6 false [] [tId, tScore] [wordJ h.id, numJ h.score]
def hitsJ (total : Int) (l : List Hit) : J := .mk 6 false [] [tTotal, tHits] [numJ total, .mk 5 false [] [] (l.map hitJ)]
def hitB (h : Hit) : Bytes := [123, 34, 105, 100, 34, 58] ++ Cx.jtext h.id ++ [44, 34, 115, 99, 111, 114, 101, 34, 58] ++ Cx.decI h.score ++ [125]
/-- Hits, with commas between; is it the first? -/
def hitsL : Bool → List Hit → Bytes
  | _, [] => []
  | first, h :: l => (if first then [] else [44]) ++ (hitB h ++ hitsL false l)
def hitsB (total : Int) (l : List Hit) : Bytes := [123, 34, 116, 111, 116, 97, 108, 34, 58] ++ Cx.decI total ++ [44, 34, 104, 105, 116, 115, 34, 58, 91] ++ hitsL true l ++ [93, 125]
theorem hitsL_snoc (h : Hit) : ∀ (l : List Hit) (first : Bool), hitsL first (l ++ [h]) = hitsL first l ++ ((if first && l.isEmpty then [] else [44]) ++ hitB h)
  | [], first => by simp [hitsL]
  | a :: l, first => by
    simp only [List.cons_append, hitsL, hitsL_snoc h l false]
    simp
theorem hitJ_pr (h : Hit) : Cx.pr (hitJ h) = hitB h := by
  have e1 : Cx.jtext tId = [34, 105, 100, 34] := by decide +kernel
  have e2 : Cx.jtext tScore = [34, 115, 99, 111, 114, 101, 34] := by decide +kernel
  simp [hitJ, hitB, wordJ, numJ, Cx.pr, Cx.prK, e1, e2]
theorem hitsL_pr : ∀ (l : List Hit) (first : Bool), Cx.prK false first [] (l.map hitJ) = hitsL first l
  | [], _ => by simp [hitsL, Cx.prK]
  | h :: l, first => by
    simp only [List.map_cons, Cx.prK_cons, hitsL, hitJ_pr, List.tail_nil, hitsL_pr l false]
    simp
theorem hitsJ_pr (total : Int) (l : List Hit) : Cx.pr (hitsJ total l) = hitsB total l := by
  have e1 : Cx.jtext tTotal = [34, 116, 111, 116, 97, 108, 34] := by decide +kernel
  have e2 : Cx.jtext tHits = [34, 104, 105, 116, 115, 34] := by decide +kernel
  simp [hitsJ, hitsB, numJ, Cx.pr, Cx.prK, e1, e2, hitsL_pr]
theorem wordJ_rx (d : Nat) (t : Bytes) : Cx.rx d (wordJ t) = true := by simp [wordJ, Cx.rx]
theorem numJ_rx {x : Int} (d : Nat) (h : -1000000 ≤ x) (h' : x ≤ 1000000) : Cx.rx d (numJ x) = true := by
  have := numJ_right d h h'
  unfold numJ at this ⊢
  unfold Cx.rx
  rw [if_neg (by decide), if_neg (by decide), if_neg (by decide)]
  exact this
theorem docJ_rx (i t : Bytes) : Cx.rx 0 (docJ i t) = true := by
  have hn : Cx.namesOk [] [tId, tText] = true := by decide +kernel
  simp [docJ, Cx.rx, Cx.rxK, hn, wordJ_rx]
theorem hitJ_rx {h : Hit} (d : Nat) (hd : d < 20) (h1 : 0 ≤ h.score) (h2 : h.score ≤ 1000000) : Cx.rx d (hitJ h) = true := by
  have hn : Cx.namesOk [] [tId, tScore] = true := by decide +kernel
  have := numJ_rx (x := h.score) (d + 1) (by omega) h2
  simp [hitJ, Cx.rx, Cx.rxK, hn, wordJ_rx, this, hd]
theorem hitsK_rx : ∀ (l : List Hit), (∀ h ∈ l, 0 ≤ h.score ∧ h.score ≤ 1000000) → Cx.rxK 2 (l.map hitJ) = true
  | [], _ => by simp [Cx.rxK]
  | h :: l, hs => by
    simp only [List.map_cons, Cx.rxK, Bool.and_eq_true]
    exact ⟨hitJ_rx 2 (by decide) (hs h (by simp)).1 (hs h (by simp)).2, hitsK_rx l fun x hx => hs x (by simp [hx])⟩
theorem hitsJ_rx {total : Int} {l : List Hit} (h1 : 0 ≤ total) (h2 : total ≤ 1000000) (hs : ∀ h ∈ l, 0 ≤ h.score ∧ h.score ≤ 1000000) : Cx.rx 0 (hitsJ total l) = true := by
  have hn : Cx.namesOk [] [tTotal, tHits] = true := by decide +kernel
  have := numJ_rx (x := total) 1 (by omega) h2
  have hk := hitsK_rx l hs
  simp [hitsJ, Cx.rx, Cx.rxK, hn, this, hk]
theorem hitsK_nodes : ∀ (l : List Hit), Cx.nodesK (l.map hitJ) = 3 * l.length
  | [] => rfl
  | h :: l => by
    simp only [List.map_cons, Cx.nodesK, hitsK_nodes l, List.length_cons]
    simp [hitJ, wordJ, numJ, Cx.nodes, Cx.nodesK]; omega
theorem hitB_length {h : Hit} (h1 : 0 ≤ h.score) (h2 : h.score ≤ 1000000) : (hitB h).length ≤ 6 * h.id.length + 36 := by
  have := Cx.jtext_length h.id
  have := Cx.decI_length (n := h.score) (by omega) (by omega)
  simp only [hitB, List.length_append, List.length_cons, List.length_nil]; omega
theorem hitsL_length : ∀ (l : List Hit) (first : Bool), (∀ h ∈ l, 0 ≤ h.score ∧ h.score ≤ 1000000 ∧ h.id.length ≤ 100) → (hitsL first l).length ≤ 640 * l.length
  | [], _, _ => by simp [hitsL]
  | h :: l, first, hs => by
    have ih := hitsL_length l false fun x hx => hs x (by simp [hx])
    obtain ⟨h1, h2, h3⟩ := hs h (by simp)
    have := hitB_length h1 h2
    simp only [hitsL, List.length_append, List.length_cons]
    have : (if first = true then ([] : Bytes) else [44]).length ≤ 1 := by split <;> simp
    omega
/-- The law of a document. -/
theorem doc_parse {i t : Bytes} (hi : i.length ≤ 500) (ht : t.length ≤ 3000) : Cx.parse (docB i t) = .ok (docJ i t) ∨ ∃ p, Cx.parse (docB i t) = .error (17, p) := by
  have hl := docB_length i t
  have := Cx.parse_rx (docJ_rx i t) (by simp [docJ, wordJ, Cx.nodes, Cx.nodesK]) (by rw [docJ_pr]; omega)
  rw [docJ_pr] at this
  cases hg : Cx.good (docJ i t) with
  | true => exact .inl (this.1 hg)
  | false => exact .inr (this.2 hg)
/-- The law of hits. -/
theorem hits_parse {total : Int} {l : List Hit} (h1 : 0 ≤ total) (h2 : total ≤ 1000000) (hl : l.length ≤ 100) (hs : ∀ h ∈ l, 0 ≤ h.score ∧ h.score ≤ 1000000 ∧ h.id.length ≤ 100) :
    Cx.parse (hitsB total l) = .ok (hitsJ total l) ∨ ∃ p, Cx.parse (hitsB total l) = .error (17, p) := by
  have hL := hitsL_length l true hs
  have hd := Cx.decI_length (n := total) (by omega) (by omega)
  have := Cx.parse_rx (hitsJ_rx h1 h2 fun h hh => ⟨(hs h hh).1, (hs h hh).2.1⟩) (by simp only [hitsJ, numJ, Cx.nodes, Cx.nodesK, hitsK_nodes]; omega) (by
    rw [hitsJ_pr]
    simp only [hitsB, List.length_append, List.length_cons, List.length_nil]; omega)
  rw [hitsJ_pr] at this
  cases hg : Cx.good (hitsJ total l) with
  | true => exact .inl (this.1 hg)
  | false => exact .inr (this.2 hg)
theorem docJ_get (i t : Bytes) : Cx.get (docJ i t) tId = some (wordJ i) ∧ Cx.get (docJ i t) tText = some (wordJ t) := by
  constructor <;> simp [docJ, Cx.get, tId, tText, List.idxOf, List.findIdx, List.findIdx.go]
theorem hitsJ_get (total : Int) (l : List Hit) : Cx.get (hitsJ total l) tTotal = some (numJ total) ∧ Cx.get (hitsJ total l) tHits = some (.mk 5 false [] [] (l.map hitJ)) := by
  constructor <;> simp [hitsJ, Cx.get, tTotal, tHits, List.idxOf, List.findIdx, List.findIdx.go]
theorem hitJ_get (h : Hit) : Cx.get (hitJ h) tId = some (wordJ h.id) ∧ Cx.get (hitJ h) tScore = some (numJ h.score) := by
  constructor <;> simp [hitJ, Cx.get, tId, tScore, List.idxOf, List.findIdx, List.findIdx.go]
theorem numJ_int {x : Int} (h : 0 ≤ x) (h' : x ≤ 1000000) : Cx.toInt (numJ x) = some x := Cx.toInt_decI (by omega) (by omega)
end Dx
