/- Plain laws of a text that is cut at its lines' ends; of rows of entries. -/
import Derived.Test.YtjhmeccdbcblbaaDoorPc
set_option linter.unusedSimpArgs false
set_option linter.unusedVariables false
namespace Go.Proofs.YtjhmeccdbcblbaaDoor
open Go.Lib (itoa decDigits join)

theorem cut_last (l : List UInt8) (h : (10 : UInt8) ∉ l) : cut (str l) = str l := by
  unfold cut str Lib.trimSuffix Lib.hasSuffix
  have h2 : ¬ List.isSuffixOf [10] l = true := fun e => h ((List.isSuffixOf_iff_suffix.1 e).subset (by simp))
  show (⟨((if List.isSuffixOf [10] l = true then l.take (l.length - 1) else l)).toArray⟩ : ByteArray) = _
  rw [if_neg h2]

theorem ext_of (s : ByteArray) (i j : Nat) : s.extract i j = str ((s.data.toList.take j).drop i) := ext_str s.data.toList i j

theorem scan_line (s : ByteArray) (f e : Nat) (hf : f < s.size) (hfe : f ≤ e) (he : e ≤ s.size) (hno : ∀ j, f ≤ j → j < e → s.data.toList.getD j 0 ≠ 10) (hend : e = s.size ∨ s.data.toList.getD e 0 = 10) :
    ∃ x, lines (s.extract f s.size) = x :: lines (s.extract (e + 1) s.size) ∧ cut x = s.extract f e := by
  have hs := Lib.size_eq s
  rw [ext_of, ext_of, ext_of]
  rw [hs] at hf he hend ⊢
  clear hs
  generalize s.data.toList = L at *
  rw [List.take_length]
  have hA : (10 : UInt8) ∉ (L.take e).drop f := by
    intro hm
    obtain ⟨j, hj, hje⟩ := List.mem_iff_getElem.1 hm
    simp only [List.length_drop, List.length_take] at hj
    have h1 := hno (f + j) (by omega) (by omega)
    rw [List.getElem_drop, List.getElem_take] at hje
    rw [List.getD, List.getElem?_eq_getElem (by omega)] at h1
    exact h1 hje
  by_cases hlast : e = L.length
  · subst hlast
    rw [List.take_length] at hA ⊢
    refine ⟨str (L.drop f), ?_, cut_last _ hA⟩
    have hz : (str (L.drop f)).size = L.length - f := by show ((L.drop f).toArray).size = _; simp
    rw [lines_last _ (by omega) (index_none _ hA), show L.drop (L.length + 1) = [] from List.drop_of_length_le (by omega)]
    rfl
  · have h10 := hend.resolve_left hlast
    have hel : e < L.length := by omega
    have hd : L.drop f = (L.take e).drop f ++ 10 :: L.drop (e + 1) := by
      rw [List.getD, List.getElem?_eq_getElem hel] at h10
      have h2 : L = L.take e ++ (10 :: L.drop (e + 1)) := by
        conv => lhs; rw [← List.take_append_drop e L, List.drop_eq_getElem_cons hel]
        rw [show L[e] = 10 from h10]
      conv => lhs; rw [h2]
      rw [List.drop_append_of_le_length (by simp; omega)]
    refine ⟨str ((L.take e).drop f ++ [10]), ?_, cut_line _⟩
    rw [hd, lines_add _ _ hA]

theorem first_fail {P : ByteArray → Prop} {pre pre' : List ByteArray} {x x' : ByteArray} {r r' : List ByteArray} (h : pre ++ x :: r = pre' ++ x' :: r') (h1 : ∀ l ∈ pre, P l) (h2 : ∀ l ∈ pre', P l) (hx : ¬ P x) (hx' : ¬ P x') : pre = pre' := by
  induction pre generalizing pre' with
  | nil =>
    cases pre' with
    | nil => rfl
    | cons a r2 =>
      simp only [List.nil_append, List.cons_append, List.cons.injEq] at h
      exact absurd (h.1 ▸ h2 a (by simp)) hx
  | cons a r2 ih =>
    cases pre' with
    | nil =>
      simp only [List.nil_append, List.cons_append, List.cons.injEq] at h
      exact absurd (h.1 ▸ h1 a (by simp)) hx'
    | cons b r3 =>
      simp only [List.cons_append, List.cons.injEq] at h
      rw [h.1, ih h.2 (fun l hl => h1 l (by simp [hl])) (fun l hl => h2 l (by simp [hl]))]

theorem Are.all {xs : List Tl.Stp} {ls : List ByteArray} (h : Are xs ls) : ∀ l ∈ ls, ∃ y, Tl.Is y (cut l).data.toList := by
  induction h with
  | nil => intro l hl; simp at hl
  | snoc h hx ih =>
    intro l hl
    rcases List.mem_append.1 hl with hl | hl
    · exact ih l hl
    · simp at hl; subst hl; exact ⟨_, hx⟩
theorem Are.get {xs : List Tl.Stp} {ls : List ByteArray} (h : Are xs ls) : ∀ (k : Nat) (l : ByteArray), ls[k]? = some l → ∃ y, xs[k]? = some y ∧ Tl.Is y (cut l).data.toList := by
  induction h with
  | nil => intro k l hl; simp at hl
  | @snoc xs ls h x l0 hx ih =>
    intro k l hl
    have hlen := h.length
    rw [List.getElem?_append] at hl
    split at hl
    · rename_i hk
      obtain ⟨y, h1, h2⟩ := ih k l hl
      exact ⟨y, by rw [List.getElem?_append_left (by omega)]; exact h1, h2⟩
    · rename_i hk
      have hk0 : k - ls.length = 0 := by
        rcases Nat.eq_zero_or_pos (k - ls.length) with h | h
        · exact h
        · rw [List.getElem?_eq_none (by simp; omega)] at hl; cases hl
      rw [hk0] at hl
      simp at hl; subst hl
      exact ⟨x, by rw [List.getElem?_append_right (by omega), show k - xs.length = 0 by omega]; rfl, hx⟩

theorem rows_at (xs : List Tl.Stp) (k : Nat) (y : Tl.Stp) (h : xs[k]? = some y) (j : Nat) (u : Value) (hu : (stepC y).toList[j]? = some u) : (rows xs)[k * 5 + j]? = some u := by
  have hj : j < 5 := by
    have := (List.getElem?_eq_some_iff.1 hu).1
    simpa [stepC] using this
  induction xs generalizing k with
  | nil => simp at h
  | cons x xs ih =>
    have hr : rows (x :: xs) = (stepC x).toList ++ rows xs := by simp [rows]
    have hl : (stepC x).toList.length = 5 := by simp [stepC]
    rw [hr]
    cases k with
    | zero =>
      simp at h; subst h
      rw [List.getElem?_append_left (by omega)]
      simpa using hu
    | succ k =>
      rw [List.getElem?_append_right (by omega), show (k + 1) * 5 + j - (stepC x).toList.length = k * 5 + j by omega]
      exact ih k (by simpa using h)

/-- the cells of an owned row of entries -/
theorem own_at {w : World} {base : Nat} {v : Value} {xs : List Tl.Stp} (h : w.ownsRow base 24 5 v xs.length (rows xs)) : (xs = [] ∧ v = .slice none 0 0) ∨ ∃ g cap, v = .slice (some ⟨g, 0, none⟩) xs.length cap ∧ base ≤ g ∧ xs.length ≤ cap ∧ g < w.heap.size ∧
    ∀ k y, xs[k]? = some y → ∀ j u, (stepC y).toList[j]? = some u → w.cell? ⟨g, k * 5 + j, none⟩ = some u := by
  have hh := h
  obtain ⟨-, ⟨h1, h2⟩ | ⟨g, cap, cur, hv, hg, hc, hn, -⟩⟩ := h
  · exact .inl ⟨List.eq_nil_of_length_eq_zero h2, h1⟩
  · refine .inr ⟨g, cap, hv, hg, hn, lt_of_heap hc, fun k y hk j u hu => ?_⟩
    have h3 := hh.cells (g := g) (by rw [hv]; rfl) (k * 5 + j) u (rows_at xs k y hk j u hu)
    rw [Lib.add_plain, Nat.zero_add] at h3
    exact h3
end Go.Proofs.YtjhmeccdbcblbaaDoor
