/- The program that is reckoned with is the program: law 26. -/
import Derived.Test.YtgnmjfnkibbnkaaGreatDoorM20
import Derived.Test.YtgnmjfnkibbnkaaGreatDoorM14
set_option linter.unusedSimpArgs false
set_option linter.unusedVariables false
namespace Go.Proofs.YtgnmjfnkibbnkaaGreatDoor
open Go Go.Proofs.PantryEng

theorem base_ok : ∀ F p, base F = some p → PrimOK Tryz.prog F p := by
  intro F p h
  unfold base at h
  split at h
  · rename_i e; subst e; injection h with h; subst h; exact primIs_ok
  · split at h
    · rename_i e; subst e; injection h with h; subst h; exact primNum_ok
    · simp at h

theorem prg_ok : AProgOK Tryz.prog methNames prg := ⟨mixed, tbl_ok, fun F af h => Tree.all_get fns_ok h, base_ok⟩

theorem prg1_ok : AProgOK Tryz.prog methNames prg1 := by
  refine ⟨mixed, tbl_ok, fun F af h => Tree.all_get fns_ok h, fun F p h => ?_⟩
  have h' : prims1 F = some p := h
  unfold prims1 at h'
  split at h'
  · rename_i e; subst e; injection h' with h'; subst h'; exact memo_ok prg_ok run_ev
  · exact base_ok F p h'

theorem small_ans : ∃ h', Ans prg1 6 [] (heap0 270 212) (.bool true) h' := by
  have := small_ev
  cases he : evCall prg1 300 6 [] (heap0 270 212) with
  | none => rw [he] at this; simp [isTrue] at this
  | some x =>
    obtain ⟨v, h'⟩ := x
    rw [he] at this
    unfold isTrue at this
    split at this
    · rename_i h2 heq
      simp only [Option.some.injEq, Prod.mk.injEq] at heq
      obtain ⟨rfl, rfl⟩ := heq
      exact ⟨_, 300, he⟩
    · simp at this
end Go.Proofs.YtgnmjfnkibbnkaaGreatDoor
