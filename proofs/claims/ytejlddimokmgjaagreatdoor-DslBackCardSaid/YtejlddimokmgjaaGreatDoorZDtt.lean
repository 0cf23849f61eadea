/- WALKS: word, object: the leaves of a query's JSON. -/
import Derived.Test.YtejlddimokmgjaaGreatDoorZDta
namespace Go.Proofs.YtejlddimokmgjaaGreatDoor
open Go.RowKit

/-- A value in new memory. -/
def MadeJ (v : Cx.J) (w : World) (e : Ending) (w' : World) : Prop :=
  ∃ cs : List Value, e = .returned (.agg cs.toArray) ∧ JAt w' (fun g => w.heap.size ≤ g) v cs ∧ Below w.heap.size w w'
/-- A value whose blocks are from some block on. -/
def MadeB (B : Nat) (v : Cx.J) (w : World) (e : Ending) (w' : World) : Prop :=
  ∃ cs : List Value, e = .returned (.agg cs.toArray) ∧ JAt w' (fun g => B ≤ g) v cs ∧ Below w.heap.size w w'

theorem Row.block {w : World} {g n : Nat} {xs : List Value} {T : TypeId} {ok : Nat → Prop} (h : w.heap[g]? = some (.cells xs.toArray T (0, 0))) (hok : ok g) (hn : 0 < n) : Row w ok (.slice (some ⟨g, 0, none⟩) n n) n xs :=
  .inr ⟨hn, g, 0, n, rfl, Nat.le_refl _, hok, heap_lt h, fun j u hu => by
    simp only [World.cell?, h, Nat.zero_add]
    simpa using hu⟩
set_option maxRecDepth 100000 in
theorem dword_calls (t : List UInt8) (w : World) : Calls Tryz.prog 108 #[.string ⟨t.toArray⟩] w (MadeJ (Dx.wordJ t) w) := by
  go_enter Tryz.func108, Tryz.ntmps108
  go_wp2_with fail
  exact bodyPost_ret (v := .agg #[.int .i64 4, .bool false, .string ⟨t.toArray⟩, .slice none 0 0, .slice none 0 0]) (by simp [results, Tryz.results108, go_sem]) rfl ⟨[.int .i64 4, .bool false, .string ⟨t.toArray⟩, .slice none 0 0, .slice none 0 0], rfl, JAt.plain, (Below.refl w.heap.size w).alloc (Nat.le_refl _) _⟩

set_option maxRecDepth 100000 in
set_option maxHeartbeats 2000000 in
theorem object_calls (n : List UInt8) (v : Cx.J) (cs : List Value) (B : Nat) (w : World) (hB : B ≤ w.heap.size) (hj : JAt w (fun g => B ≤ g) v cs) :
    Calls Tryz.prog 107 #[.string ⟨n.toArray⟩, .agg cs.toArray] w (MadeB B (Dx.objJ n v) w) := by
  obtain ⟨V, hV⟩ : ∃ V, V = v := ⟨_, rfl⟩
  cases v with
  | mk k is t ns ks =>
  obtain ⟨a, nc, a', kc, rfl⟩ := hj.shape
  rw [← hV] at hj ⊢
  have J := Lib.hid hj
  clear hj hV
  go_enter Tryz.func107, Tryz.ntmps107
  obtain ⟨W, hW⟩ : ∃ W, W = ((((w.alloc (.cells #[.int .i64 k, .bool is, .string ⟨t.toArray⟩, .slice a ns.length nc, .slice a' ks.length kc] 48)).alloc (.cells #[.int .i64 6, .bool false, .string ⟨#[]⟩, .slice (some ⟨w.heap.size + 1 + 1, 0, none⟩) 1 1, .slice (some ⟨w.heap.size + 1 + 1 + 1, 0, none⟩) 1 1] 48)).alloc (.cells #[.string ⟨n.toArray⟩] 9)).alloc (.cells #[.int .i64 k, .bool is, .string ⟨t.toArray⟩, .slice a ns.length nc, .slice a' ks.length kc] 48)) := ⟨_, rfl⟩
  have HB := Lib.hid (show Below w.heap.size w W by rw [hW]; exact ((((Below.refl w.heap.size w).alloc (Nat.le_refl _) _).alloc (by simp) _).alloc (by simp; omega) _).alloc (by simp; omega) _)
  have h1 : W.heap[w.heap.size + 1]? = some (.cells #[.int .i64 6, .bool false, .string ⟨#[]⟩, .slice (some ⟨w.heap.size + 1 + 1, 0, none⟩) 1 1, .slice (some ⟨w.heap.size + 1 + 1 + 1, 0, none⟩) 1 1] 48 (0, 0)) := by
    rw [hW, Below.heap_alloc _ _ _ (by simp), Below.heap_alloc _ _ _ (by simp)]
    have := heap_alloc_new (w.alloc (.cells #[.int .i64 k, .bool is, .string ⟨t.toArray⟩, .slice a ns.length nc, .slice a' ks.length kc] 48)) (.cells #[.int .i64 6, .bool false, .string ⟨#[]⟩, .slice (some ⟨w.heap.size + 1 + 1, 0, none⟩) 1 1, .slice (some ⟨w.heap.size + 1 + 1 + 1, 0, none⟩) 1 1] 48)
    simpa using this
  have h2 : W.heap[w.heap.size + 1 + 1]? = some (.cells #[.string ⟨n.toArray⟩] 9 (0, 0)) := by
    rw [hW, Below.heap_alloc _ _ _ (by simp)]
    have := heap_alloc_new ((w.alloc (.cells #[.int .i64 k, .bool is, .string ⟨t.toArray⟩, .slice a ns.length nc, .slice a' ks.length kc] 48)).alloc (.cells #[.int .i64 6, .bool false, .string ⟨#[]⟩, .slice (some ⟨w.heap.size + 1 + 1, 0, none⟩) 1 1, .slice (some ⟨w.heap.size + 1 + 1 + 1, 0, none⟩) 1 1] 48)) (.cells #[.string ⟨n.toArray⟩] 9)
    simpa using this
  have h3 : W.heap[w.heap.size + 1 + 1 + 1]? = some (.cells #[.int .i64 k, .bool is, .string ⟨t.toArray⟩, .slice a ns.length nc, .slice a' ks.length kc] 48 (0, 0)) := by
    rw [hW]
    have := heap_alloc_new (((w.alloc (.cells #[.int .i64 k, .bool is, .string ⟨t.toArray⟩, .slice a ns.length nc, .slice a' ks.length kc] 48)).alloc (.cells #[.int .i64 6, .bool false, .string ⟨#[]⟩, .slice (some ⟨w.heap.size + 1 + 1, 0, none⟩) 1 1, .slice (some ⟨w.heap.size + 1 + 1 + 1, 0, none⟩) 1 1] 48)).alloc (.cells #[.string ⟨n.toArray⟩] 9)) (.cells #[.int .i64 k, .bool is, .string ⟨t.toArray⟩, .slice a ns.length nc, .slice a' ks.length kc] 48)
    simpa using this
  have HJ := Lib.hid (show JAt W (fun g => B ≤ g) (Dx.objJ n V) [.int .i64 6, .bool false, .string ⟨#[]⟩, .slice (some ⟨w.heap.size + 1 + 1, 0, none⟩) 1 1, .slice (some ⟨w.heap.size + 1 + 1 + 1, 0, none⟩) 1 1] from by
    unfold Dx.objJ JAt
    refine ⟨_, _, rfl, Row.block (n := 1) (xs := [.string ⟨n.toArray⟩]) h2 (by omega) (by decide), [[.int .i64 k, .bool is, .string ⟨t.toArray⟩, .slice a ns.length nc, .slice a' ks.length kc]], ?_, Row.block (n := 1) (xs := [.int .i64 k, .bool is, .string ⟨t.toArray⟩, .slice a ns.length nc, .slice a' ks.length kc]) h3 (by omega) (by decide)⟩
    unfold JsAt
    exact ⟨_, [], rfl, JAt.kept HB.out.size (fun g hg hl => ⟨HB.out.block g hl, hg⟩) _ _ J.out, by unfold JsAt; rfl⟩)
  have H1 := Lib.hid h1; have HW := Lib.hid hW
  clear h1 h2 h3 hW
  go_wp2_with fail
  rw [← HW.out]
  obtain ⟨z0, z1, z2, z3, z4, _⟩ := cells5 H1.out
  exact bodyPost_ret (v := .agg #[.int .i64 6, .bool false, .string ⟨#[]⟩, .slice (some ⟨w.heap.size + 1 + 1, 0, none⟩) 1 1, .slice (some ⟨w.heap.size + 1 + 1 + 1, 0, none⟩) 1 1]) (by simp [results, Tryz.results107, go_sem, z0, z1, z2, z3, z4]) rfl ⟨_, rfl, HJ.out, HB.out⟩
end Go.Proofs.YtejlddimokmgjaaGreatDoor
