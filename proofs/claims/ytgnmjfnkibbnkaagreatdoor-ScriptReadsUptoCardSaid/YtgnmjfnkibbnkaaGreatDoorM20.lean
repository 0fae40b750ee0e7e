/- small() of pantrylaw26: the rest. -/
import Derived.Test.YtgnmjfnkibbnkaaGreatDoorM19
set_option linter.unusedSimpArgs false
set_option linter.unusedVariables false
namespace Go.Proofs.YtgnmjfnkibbnkaaGreatDoor
open Go Go.Proofs.PantryEng
set_option maxRecDepth 100000
def prims1 (f : Nat) : Option (List Value → AHeap → Option (Value × AHeap)) :=
  if f = 14 then some (memo runArgs runHeap runRes) else base f
def prg1 : AProg := ⟨fns, tbl, prims1⟩
def isTrue : Option (Value × AHeap) → Bool
  | some (.bool true, _) => true
  | _ => false
theorem small_ev : isTrue (evCall prg1 300 6 [] (heap0 270 212)) = true := by kernel_rfl
end Go.Proofs.YtgnmjfnkibbnkaaGreatDoor
