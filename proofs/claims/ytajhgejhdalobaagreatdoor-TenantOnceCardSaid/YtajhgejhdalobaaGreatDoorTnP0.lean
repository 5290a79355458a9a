/-
  A TEXT SPLIT at blanks (plain).
-/
import Derived.Test.YtajhgejhdalobaaGreatDoorDgP
namespace Go.Proofs.YtajhgejhdalobaaGreatDoor

def splitS : Bs → List Bs
  | [] => [[]]
  | c :: l => if c = 32 then [] :: splitS l else match splitS l with
    | [] => [[c]]
    | h :: r => (c :: h) :: r
theorem split_none : ∀ {x : Bs}, (32 : UInt8) ∉ x → splitS x = [x]
  | [], _ => rfl
  | c :: l, h => by
    have hc : ¬ c = 32 := fun e => h (e ▸ List.mem_cons_self)
    unfold splitS
    rw [if_neg hc, split_none (fun hm => h (List.mem_cons_of_mem _ hm))]
theorem split_cons : ∀ {x r : Bs}, (32 : UInt8) ∉ x → splitS (x ++ 32 :: r) = x :: splitS r
  | [], r, _ => by
    show splitS (32 :: r) = _
    rw [splitS, if_pos rfl]
  | c :: l, r, h => by
    have hc : ¬ c = 32 := fun e => h (e ▸ List.mem_cons_self)
    show splitS (c :: (l ++ 32 :: r)) = _
    rw [splitS, if_neg hc, split_cons (fun hm => h (List.mem_cons_of_mem _ hm))]
end Go.Proofs.YtajhgejhdalobaaGreatDoor
