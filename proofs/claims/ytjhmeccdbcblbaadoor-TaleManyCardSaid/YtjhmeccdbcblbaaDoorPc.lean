/- Plain laws of texts of many lines. -/
import Derived.Test.YtjhmeccdbcblbaaDoorWk
import Derived.Test.YtjhmeccdbcblbaaDoorPb
set_option linter.unusedSimpArgs false
set_option linter.unusedVariables false
namespace Go.Proofs.YtjhmeccdbcblbaaDoor
open Go.Lib (itoa decDigits join)

def lineOf (x : Tl.Stp) : List UInt8 := Tl.lineAt x (x.kind - 1).toNat
/-- the text of these entries -/
def textOf (xs : List Tl.Stp) : List UInt8 := (xs.map fun x => lineOf x ++ [10]).flatten
theorem textOf_snoc (xs : List Tl.Stp) (x : Tl.Stp) : textOf (xs ++ [x]) = textOf xs ++ (lineOf x ++ [10]) := by simp [textOf]
theorem textOf_cons (x : Tl.Stp) (xs : List Tl.Stp) : textOf (x :: xs) = (lineOf x ++ [10]) ++ textOf xs := by simp [textOf]
theorem textOf_len (xs : List Tl.Stp) (h : ∀ x ∈ xs, x.ok) : (textOf xs).length ≤ xs.length * 111 := by
  induction xs with
  | nil => simp [textOf]
  | cons x xs ih =>
    have h1 := ih (fun y hy => h y (by simp [hy]))
    have h2 := Tl.line_len x (h x (by simp)) (x.kind - 1).toNat
    rw [textOf_cons]
    simp only [List.length_append, List.length_cons, List.length_nil, lineOf]
    omega

theorem index10 (l r : List UInt8) (h : (10 : UInt8) ∉ l) : Lib.indexByte (l ++ 10 :: r) 10 = l.length := by
  induction l with
  | nil => rfl
  | cons b l ih =>
    have hb : ¬ (b == 10) = true := fun e => h (by simp [eq_of_beq e])
    have hi := ih (fun e => h (by simp [e]))
    rw [List.cons_append, Lib.indexByte, if_neg hb, hi]
    simp
theorem index_none (l : List UInt8) (h : (10 : UInt8) ∉ l) : Lib.indexByte l 10 = -1 := by
  induction l with
  | nil => rfl
  | cons b l ih =>
    have hb : ¬ (b == 10) = true := fun e => h (by simp [eq_of_beq e])
    have hi := ih (fun e => h (by simp [e]))
    rw [Lib.indexByte, if_neg hb, hi]
    rfl
theorem ext_str (l : List UInt8) (i j : Nat) : (str l).extract i j = str ((l.take j).drop i) := by
  apply ByteArray.ext
  rw [ByteArray.data_extract]
  unfold str
  simp [List.drop_take]

theorem lines_add (l r : List UInt8) (h : (10 : UInt8) ∉ l) : lines (str (l ++ 10 :: r)) = str (l ++ [10]) :: lines (str r) := by
  have hn : nl (str (l ++ 10 :: r)) = l.length := index10 l r h
  have hs : (str (l ++ 10 :: r)).size = l.length + (r.length + 1) := by show (l ++ 10 :: r).toArray.size = _; simp
  rw [lines_step _ (by omega) (by omega), hn, hs]
  congr 1
  · rw [ext_str]
    congr 1
    rw [show (((l.length : Int)).toNat + 1) = (l ++ [10]).length by simp, show l ++ 10 :: r = (l ++ [10]) ++ r by simp, List.take_left]
    rfl
  · rw [ext_str]
    congr 2
    rw [show (((l.length : Int)).toNat + 1) = (l ++ [10]).length by simp, show l ++ 10 :: r = (l ++ [10]) ++ r by simp, List.take_of_length_le (by simp), List.drop_left]
theorem lines_text (xs : List Tl.Stp) : lines (str (textOf xs)) = xs.map fun x => str (lineOf x ++ [10]) := by
  induction xs with
  | nil => exact lines_none _ rfl
  | cons x xs ih =>
    rw [textOf_cons, List.append_assoc, List.singleton_append, lines_add _ _ (show (10 : UInt8) ∉ lineOf x from Tl.line_no10 _ _), ih]
    rfl
theorem cut_line (l : List UInt8) : cut (str (l ++ [10])) = str l := by
  unfold cut str Lib.trimSuffix Lib.hasSuffix
  have h : List.isSuffixOf [10] (l ++ [10]) = true := List.isSuffixOf_iff_suffix.2 (List.suffix_append _ _)
  show (⟨((if List.isSuffixOf [10] (l ++ [10]) = true then (l ++ [10]).take ((l ++ [10]).length - 1) else (l ++ [10]))).toArray⟩ : ByteArray) = _
  rw [if_pos h]
  simp
/-- the entries of the text of entries are these -/
theorem are_text {xs ys : List Tl.Stp} (hx : ∀ x ∈ xs, x.ok ∧ Tl.okB x = true) (h : Are ys (lines (str (textOf xs)))) : ys = xs := by
  rw [lines_text] at h
  have key : ∀ {zs : List Tl.Stp} {ls : List ByteArray}, Are zs ls → ∀ us : List Tl.Stp, (∀ x ∈ us, x.ok ∧ Tl.okB x = true) → ls = (us.map fun x => str (lineOf x ++ [10])) → zs = us := by
    intro zs ls hA
    induction hA with
    | nil =>
      intro us _ he
      cases us with
      | nil => rfl
      | cons u us => simp at he
    | @snoc zs ls hA x l hI ih =>
      intro us hu he
      rcases List.eq_nil_or_concat us with rfl | ⟨us', u, rfl⟩
      · simp at he
      · rw [List.concat_eq_append, List.map_append] at he
        have h2 := List.append_inj' he rfl
        have h3 := ih us' (fun x hx => hu x (by simp [hx])) h2.1
        have h4 : l = str (lineOf u ++ [10]) := by simpa using h2.2
        have hu2 := hu u (by simp)
        rw [h4, cut_line] at hI
        have h5 : Tl.Is u (str (lineOf u)).data.toList := ⟨hu2.1, hu2.2, rfl⟩
        rw [List.concat_eq_append, h3, hI.inj h5]
  exact key h xs hx rfl
end Go.Proofs.YtjhmeccdbcblbaaDoor
