/- One chunk more. -/
import Derived.Test.YthdmdafhldicmaaGreatDoorHxVal
namespace Hx
theorem chunksN_succ (s : Bytes) (n : Nat) (acc : Bytes) (i : Nat) : chunksN s (n + 1) acc i =
    (if (line s i (i + 100)).2.1 = 431 then ([], 400, (line s i (i + 100)).2.2)
     else if (line s i (i + 100)).2.1 ≠ 200 then ([], (line s i (i + 100)).2.1, (line s i (i + 100)).2.2)
     else match size (line s i (i + 100)).1 with
       | none => ([], 400, (line s i (i + 100)).2.2)
       | some k =>
         if 8000 < k + acc.length then ([], 413, (line s i (i + 100)).2.2)
         else if k = 0 then (acc, if (fields s (line s i (i + 100)).2.2 ((line s i (i + 100)).2.2 + 2000)).2.1 = 431 then 400 else (fields s (line s i (i + 100)).2.2 ((line s i (i + 100)).2.2 + 2000)).2.1, (fields s (line s i (i + 100)).2.2 ((line s i (i + 100)).2.2 + 2000)).2.2)
         else if ((s.drop ((line s i (i + 100)).2.2 + k)).take 2).isPrefixOf [13, 10] = false then ([], 400, (line s i (i + 100)).2.2)
         else if ((s.drop ((line s i (i + 100)).2.2 + k)).take 2).length < 2 then ([], 0, (line s i (i + 100)).2.2)
         else chunksN s n (acc ++ (s.drop (line s i (i + 100)).2.2).take k) ((line s i (i + 100)).2.2 + k + 2)) := by
  conv => lhs; unfold chunksN
  obtain ⟨l, e, j⟩ := line s i (i + 100)
  simp only
  split
  · rfl
  · split
    · rfl
    · cases size l with
      | none => rfl
      | some k => rfl
end Hx
