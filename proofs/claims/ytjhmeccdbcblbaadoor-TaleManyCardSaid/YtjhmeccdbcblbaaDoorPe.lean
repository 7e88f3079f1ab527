/- A slice of entries that came in, opened. -/
import Derived.Test.YtjhmeccdbcblbaaDoorBase
import Derived.Test.YtjhmeccdbcblbaaDoorLd
import Derived.Deep.Slices
import Derived.ChangeOld
set_option linter.unusedSimpArgs false
set_option linter.unusedVariables false
namespace Go.Proofs.YtjhmeccdbcblbaaDoor
open Go.ChangeShapes Go.WideShapes Go.ChangeAt Go.RowKit

theorem list5 {α : Type} {l : List α} (h : l.length = 5) : ∃ a b c d e, l = [a, b, c, d, e] := by
  match l, h with
  | [a, b, c, d, e], _ => exact ⟨a, b, c, d, e, rfl⟩
set_option maxRecDepth 100000 in
theorem open_steps {H : Type} {enc : TypeId × Value → H} {w : World} {b0 : Nat} {r : Reach} {v : Value} {d : DataW H} {p : List MemPlace}
    (hv : Value.okWide Tryd.prog w r b0 35 v) (h : DataW.Trod enc Tryd.prog w 0 (fun _ => true) true 35 v d p) : ∃ n X, ListIs w v n X := by
  obtain ⟨a, len, cap, rfl⟩ := okWide_slice Tryd.underlying35 hv
  obtain ⟨fuel, hf⟩ := h
  have hf' : DataW.trod enc Tryd.prog w 0 (fun _ => true) true fuel 35 [.slice a len cap] = some (d, p) := by simpa [Value.cells] using hf
  rcases Deep.open_slice Tryd.underlying35 hf' with ⟨hcs, -⟩ | ⟨a', len', cap', m, nn, D, Pl, hcs, hb, hl, hm, hmm, -, hel⟩
  · simp only [List.cons.injEq, Value.slice.injEq, and_true] at hcs
    obtain ⟨rfl, rfl, rfl⟩ := hcs
    exact ⟨0, fun _ => zeroS, by decide, fun i hi => by omega, none, 0, rfl, fun h => by omega⟩
  · simp only [List.cons.injEq, Value.slice.injEq, and_true] at hcs
    obtain ⟨rfl, rfl, rfl⟩ := hcs
    rw [c24] at hel
    have hm2 : len ≤ m := by rw [hmm]; simp; exact hl
    have key : ∀ i, ∃ x : Tl.Stp, i < len → x.ok ∧ ∀ (j : Nat) u, (stepC x).toList[j]? = some u → w.cell? ((a'.add (i * 5)).add j) = some u := by
      intro i
      by_cases hi : i < len
      · obtain ⟨cs', h1, h2⟩ := hel i (by omega)
        obtain ⟨-, h3, h4⟩ := World.cells?_some h1
        obtain ⟨c0, c1, c2, c3, c4, rfl⟩ := list5 h3
        obtain ⟨x, hx, he⟩ := open_cells h2
        refine ⟨x, fun _ => ⟨hx, fun j u hu => ?_⟩⟩
        have he2 : (stepC x).toList = [c0, c1, c2, c3, c4] := by rw [← he]
        rw [he2] at hu
        have hj : j < 5 := by simpa using (List.getElem?_eq_some_iff.1 hu).1
        rw [h4 j hj]; exact hu
      · exact ⟨zeroS, fun h => absurd h hi⟩
    obtain ⟨X, hX⟩ := Classical.skolem.1 key
    refine ⟨len, X, Nat.le_trans hl hm, fun i hi => (hX i hi).1, some a', cap, rfl, fun hpos => ?_⟩
    obtain ⟨b, off, spot⟩ := a'
    have h00 := (hX 0 hpos).2 0 _ rfl
    have hspot : spot = none := by simpa [Addr.add] using World.cell?_spot h00
    subst hspot
    refine ⟨b, off, rfl, ?_, fun i hi j u hu => ?_⟩
    · obtain ⟨cs', h1, h2⟩ := hel 0 (by omega)
      exact World.cells?_block h1 (by decide)
    · have h := (hX i hi).2 j u hu
      rw [Lib.add_plain, Lib.add_plain] at h
      exact h
end Go.Proofs.YtjhmeccdbcblbaaDoor
