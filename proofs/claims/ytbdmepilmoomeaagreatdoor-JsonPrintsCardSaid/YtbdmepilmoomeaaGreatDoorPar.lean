/- WALKS: Parse and its deferred closure. -/
import Derived.Test.YtbdmepilmoomeaaGreatDoorVal
import Derived.Recover
import Derived.Defers
import Derived.BigRegion
namespace Go.Proofs.YtbdmepilmoomeaaGreatDoor
open Go.RowKit

theorem is_struct {u : Option TypeDesc} (h : (match u with | some (.struct _) => true | _ => false) = true) : ∃ fs, u = some (.struct fs) := by
  split at h
  · exact ⟨_, rfl⟩
  · cases h

theorem under_fault : ∃ fs, Tryz.prog.underlying 44 = some (.struct fs) := by
  exact is_struct (show (match Tryz.prog.underlying 44 with | some (.struct _) => true | _ => false) = true by kernel_rfl)

theorem asserted_not (w : World) : Sem.run Tryz.prog (Instr.typeAssert .nilIface 20 44 true) w = .ok (.tuple #[.agg #[.int .i64 0, .int .i64 0], .bool false]) w := by
  obtain ⟨fs, h⟩ := under_fault
  have hz : (Tryz.prog.info? 44).map (fun i => i.zero) = some (some (.agg #[.int .i64 0, .int .i64 0])) := by kernel_rfl
  cases hi : Tryz.prog.info? 44 with
  | none => rw [hi] at hz; cases hz
  | some i =>
    rw [hi] at hz
    have hz : i.zero = some (.agg #[.int .i64 0, .int .i64 0]) := by simpa using hz
    simp [Instr.typeAssert, go_sem, run_underlying h, zeroValue, typeInfo, hi, hz]

theorem asserted (e p : Int) (w : World) : Sem.run Tryz.prog (Instr.typeAssert (.iface 44 (.agg #[.int .i64 e, .int .i64 p])) 20 44 true) w = .ok (.tuple #[.agg #[.int .i64 e, .int .i64 p], .bool true]) w := by
  obtain ⟨fs, h⟩ := under_fault
  simp [Instr.typeAssert, go_sem, run_underlying h]

/-- The three variables that a parse lays its results into. -/
structure Vars (N : Nat) (x0 x1 x2 x3 x4 e p : Value) (w : World) : Prop where
  v : w.heap[N]? = some (.cells #[x0, x1, x2, x3, x4] 26 (0, 0))
  err : w.heap[N + 1]? = some (.cells #[e] 27 (0, 0))
  at' : w.heap[N + 2]? = some (.cells #[p] 3 (0, 0))

theorem Vars.drew {N : Nat} {x0 x1 x2 x3 x4 e p : Value} {w : World} (h : Vars N x0 x1 x2 x3 x4 e p w) : Vars N x0 x1 x2 x3 x4 e p w.drew := ⟨h.v, h.err, h.at'⟩
theorem heap_drew (w : World) : w.drew.heap = w.heap := rfl

set_option maxRecDepth 100000 in
theorem catch_panicking (N : Nat) (e p : Int) (w : World) (x0 x1 x2 x3 x4 : Value) (e0 p0 : Int) (hV : Vars N x0 x1 x2 x3 x4 (.int .i64 e0) (.int .i64 p0) w) :
    CallsD Tryz.prog 23 #[.pointer (some ⟨N, 0, none⟩), .pointer (some ⟨N + 1, 0, none⟩), .pointer (some ⟨N + 2, 0, none⟩)] (.panicking (fault e p)) w fun en u' w' =>
      en = .returned (.tuple #[]) ∧ settle u' = .returning ∧ Vars N (.int .i64 0) (.bool false) (.string ⟨#[]⟩) (.slice none 0 0) (.slice none 0 0) (.int .i64 e) (.int .i64 p) w' ∧ Below N w w' := by
  have hN : N + 2 < w.heap.size := heap_lt hV.at'
  unfold fault
  refine callsD_of_wpS Tryz.func23 rfl fun c₀ cs hu => ?_
  apply wpS_seq
  apply wpS_region
  have hta := asserted e p
  rw [show (#[Value.pointer (some ⟨N, 0, none⟩), .pointer (some ⟨N + 1, 0, none⟩), .pointer (some ⟨N + 2, 0, none⟩)] ++ Array.replicate (Tryz.f23.ntmps - (#[Value.pointer (some ⟨N, 0, none⟩), .pointer (some ⟨N + 1, 0, none⟩), .pointer (some ⟨N + 2, 0, none⟩)] : Array Value).size) undef) = #[Value.pointer (some ⟨N, 0, none⟩), .pointer (some ⟨N + 1, 0, none⟩), .pointer (some ⟨N + 2, 0, none⟩), undef, undef, undef, undef, undef, undef, undef, undef, undef, undef, undef, undef, undef] from by simp [Tryz.ntmps23]]
  simp [wpOpsS, go_sem, recoverD, hu, hta, Exit.thenS]
  generalize hF : w.heap.size = F at hN ⊢
  generalize hw1 : w.alloc (.cells #[.int .i64 e, .int .i64 p] 44) = w1
  have hV1 : Vars N x0 x1 x2 x3 x4 (.int .i64 e0) (.int .i64 p0) w1 := by
    subst hw1
    exact ⟨by rw [Below.heap_alloc _ _ _ (by omega)]; exact hV.v, by rw [Below.heap_alloc _ _ _ (by omega)]; exact hV.err, by rw [Below.heap_alloc _ _ _ (by omega)]; exact hV.at'⟩
  have hf1 : w1.heap[F]? = some (.cells #[.int .i64 e, .int .i64 p] 44 (0, 0)) := by
    subst hw1; rw [← hF]; exact heap_alloc_new w _
  have q0 : w1.cell? ⟨F, 0, none⟩ = some (.int .i64 e) := by simp [World.cell?, hf1]
  have q1 : w1.cell? ⟨F, 1, none⟩ = some (.int .i64 p) := by simp [World.cell?, hf1]
  obtain ⟨r0, r1, r2, r3, r4, rf⟩ := cells5 hV1.v
  have rf0 := rf 0; have rf1 := rf 1; have rf2 := rf 2; have rf3 := rf 3; have rf4 := rf 4
  have s0 : w1.cell? ⟨N + 1, 0, none⟩ = some (.int .i64 e0) := by simp [World.cell?, hV1.err]
  have s1 : w1.cell? ⟨N + 2, 0, none⟩ = some (.int .i64 p0) := by simp [World.cell?, hV1.at']
  have sf0 : w1.frozen? ⟨N + 1, 0, none⟩ = false := by simp [World.frozen?, hV1.err]
  have sf1 : w1.frozen? ⟨N + 2, 0, none⟩ = false := by simp [World.frozen?, hV1.at']
  have n1 : F ≠ N := by omega
  have n2 : F ≠ N + 1 := by omega
  have n3 : F ≠ N + 2 := by omega
  refine wpS_of_wp ?_
  have HV := Lib.hid hV1; have HU := Lib.hid hu
  clear hV1 hu hf1 rf
  go_wp2
  go_region
  have hF' := HV.out
  refine ⟨rfl, _, rfl, .tuple #[], by simp [results, Tryz.results23, go_sem], rfl, rfl, ?_, ?_⟩
  · refine Vars.drew ⟨?_, ?_, ?_⟩
    · rw [Below.heap_setCell _ _ _ _ (by show N ≠ N + 2; omega), Below.heap_setCell _ _ _ _ (by show N ≠ N + 1; omega)]
      exact put5_heap hF'.v
    · rw [Below.heap_setCell _ _ _ _ (by show N + 1 ≠ N + 2; omega)]
      simp [World.setCell, Array.getElem?_modify, hF'.err]
    · simp [World.setCell, Array.getElem?_modify, hF'.at']
  · have hb : Below N w w1 := by rw [← hw1]; exact (Below.refl N w).alloc (by omega) _
    exact ((((((((hb.setCell (p := ⟨N, 0, none⟩) (Nat.le_refl _) _).setCell (p := ⟨N, 1, none⟩) (Nat.le_refl _) _).setCell (p := ⟨N, 2, none⟩) (Nat.le_refl _) _).setCell (p := ⟨N, 3, none⟩) (Nat.le_refl _) _).setCell (p := ⟨N, 4, none⟩) (Nat.le_refl _) _).setCell (p := ⟨N + 1, 0, none⟩) (Nat.le_succ _) _).setCell (p := ⟨N + 2, 0, none⟩) (by show N ≤ N + 2; omega) _).drew)

set_option maxRecDepth 100000 in
theorem catch_idle (N : Nat) (w : World) :
    CallsD Tryz.prog 23 #[.pointer (some ⟨N, 0, none⟩), .pointer (some ⟨N + 1, 0, none⟩), .pointer (some ⟨N + 2, 0, none⟩)] .returning w fun en u' w' =>
      en = .returned (.tuple #[]) ∧ u' = .returning ∧ w' = w.alloc (.cells #[.int .i64 0, .int .i64 0] 44) := by
  refine callsD_of_wpS Tryz.func23 rfl fun c₀ cs hu => ?_
  apply wpS_seq
  apply wpS_region
  have hta := asserted_not
  rw [show (#[Value.pointer (some ⟨N, 0, none⟩), .pointer (some ⟨N + 1, 0, none⟩), .pointer (some ⟨N + 2, 0, none⟩)] ++ Array.replicate (Tryz.f23.ntmps - (#[Value.pointer (some ⟨N, 0, none⟩), .pointer (some ⟨N + 1, 0, none⟩), .pointer (some ⟨N + 2, 0, none⟩)] : Array Value).size) undef) = #[Value.pointer (some ⟨N, 0, none⟩), .pointer (some ⟨N + 1, 0, none⟩), .pointer (some ⟨N + 2, 0, none⟩), undef, undef, undef, undef, undef, undef, undef, undef, undef, undef, undef, undef, undef] from by simp [Tryz.ntmps23]]
  simp [wpOpsS, go_sem, recoverD, hu, hta, Exit.thenS]
  generalize hw1 : w.alloc (.cells #[.int .i64 0, .int .i64 0] 44) = w1
  refine wpS_of_wp ?_
  go_wp2
  refine ⟨rfl, .returning, by rw [← hu], .tuple #[], by simp [results, Tryz.results23, go_sem], rfl, rfl, rfl⟩
end Go.Proofs.YtbdmepilmoomeaaGreatDoor
