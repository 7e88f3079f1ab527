/- More plain laws of lines: none is empty, none bears a line's end. -/
import Derived.Test.YtjhmeccdbcblbaaDoorPure
set_option linter.unusedSimpArgs false
set_option linter.unusedVariables false
namespace Go.Proofs.YtjhmeccdbcblbaaDoor
namespace Tl
open Go.Lib

theorem wordOf_ne (k : Nat) : wordOf k ≠ [] := by unfold wordOf; split <;> simp
theorem wordOf_no10 (k : Nat) : (10 : UInt8) ∉ wordOf k := by unfold wordOf; split <;> decide
theorem dec_no10 (u : Nat) : (10 : UInt8) ∉ decDigits u := fun h => by
  have := decDigits_mem u 10 h
  simp at this
theorem itoa_no10 (m : Int) : (10 : UInt8) ∉ itoa m := by
  unfold itoa
  split
  · intro h
    rcases List.mem_cons.1 h with h | h
    · simp at h
    · exact dec_no10 _ h
  · exact dec_no10 _
theorem join_no10 : ∀ (l : List (List UInt8)), (∀ x ∈ l, (10 : UInt8) ∉ x) → (10 : UInt8) ∉ join l [32]
  | [], _ => by simp [join, List.intercalate]
  | [w], h => by rw [join_one]; exact h w (by simp)
  | w :: w' :: r, h => by
    rw [join_cons2]
    have ih := join_no10 (w' :: r) (fun x hx => h x (by simp at hx ⊢; exact .inr hx))
    have h0 := h w (by simp)
    simp [h0, ih]
theorem line_no10 (x : Stp) (k : Nat) : (10 : UInt8) ∉ lineAt x k := by
  refine join_no10 _ fun y hy => ?_
  unfold wordsL tailL at hy
  rcases List.mem_cons.1 hy with rfl | hy
  · exact wordOf_no10 k
  · rcases List.mem_append.1 hy with hy | hy
    · obtain ⟨m, _, rfl⟩ := List.mem_map.1 hy; exact itoa_no10 m
    · split at hy
      · simp at hy; subst hy; exact dec_no10 _
      · simp at hy
theorem line_ne (x : Stp) (k : Nat) : lineAt x k ≠ [] := by
  unfold lineAt wordsL
  have h := wordOf_ne k
  cases ht : tailL x (sizeOf k) (scalOf k) with
  | nil => rw [join_one]; exact h
  | cons a r => rw [join_cons2]; simp [h]
end Tl
end Go.Proofs.YtjhmeccdbcblbaaDoor
