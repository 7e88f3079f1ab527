/- The plain laws of entries and lines: what a line is; that a line is cut into its words again; that unlike entries have unlike lines. No program in this text. -/
import Derived.Lib.Split
import Derived.Lib.SplitLaws
import Derived.Lib.Join
import Derived.Lib.ItoaNum
import Derived.Lib.ItoaLen
import Derived.Lib.AtoiAll
import Derived.Lib.ParseIntB
import Derived.Lib.IndexLaws
set_option linter.unusedSimpArgs false
set_option linter.unusedVariables false
namespace Go.Proofs.YtjhmeccdbcblbaaDoor
namespace Tl
open Go.Lib

/-! ### numerals -/
theorem dig_toNat (d : Nat) (h : d < 10) : (UInt8.ofNat (48 + d)).toNat = 48 + d := by
  rw [UInt8.toNat_ofNat']; omega

theorem decDigits_mem (u : Nat) : ∀ c ∈ decDigits u, 48 ≤ c.toNat ∧ c.toNat ≤ 57 := by
  induction u using Nat.strongRecOn with
  | _ u ih =>
    intro c hc
    rw [decDigits] at hc
    split at hc
    · rename_i h
      rcases List.mem_singleton.1 hc with rfl
      rw [dig_toNat u h]; omega
    · simp only [List.mem_append, List.mem_singleton] at hc
      rcases hc with hc | rfl
      · exact ih (u / 10) (by omega) c hc
      · rw [dig_toNat (u % 10) (by omega)]; omega

theorem decDigits_ne (u : Nat) : decDigits u ≠ [] := by
  rw [decDigits]; split <;> simp

/-- the value of a row of digits -/
def valFrom (acc : Nat) : List UInt8 → Nat
  | [] => acc
  | c :: r => valFrom (acc * 10 + (c.toNat - 48)) r
theorem valFrom_append (l r : List UInt8) : ∀ acc, valFrom acc (l ++ r) = valFrom (valFrom acc l) r := by
  induction l with
  | nil => intro acc; rfl
  | cons c l ih => intro acc; exact ih _
theorem valFrom_dec (u : Nat) : valFrom 0 (decDigits u) = u := by
  induction u using Nat.strongRecOn with
  | _ u ih =>
    by_cases h : u < 10
    · rw [decDigits, dif_pos h]
      show 0 * 10 + ((UInt8.ofNat (48 + u)).toNat - 48) = u
      rw [dig_toNat u h]; omega
    · rw [decDigits, dif_neg h, valFrom_append, ih (u / 10) (by omega)]
      show u / 10 * 10 + ((UInt8.ofNat (48 + u % 10)).toNat - 48) = u
      rw [dig_toNat (u % 10) (by omega)]; omega
theorem decDigits_inj {u v : Nat} (h : decDigits u = decDigits v) : u = v := by
  rw [← valFrom_dec u, h, valFrom_dec]

theorem itoa_inj {m n : Int} (h : itoa m = itoa n) : m = n := by
  unfold itoa at h
  have hm := decDigits_mem
  split at h <;> split at h
  · have := decDigits_inj (List.cons.inj h).2; omega
  · rename_i h1 h2
    have h3 := decDigits_mem n.toNat 45 (by rw [← h]; simp)
    simp at h3
  · rename_i h1 h2
    have h3 := decDigits_mem m.toNat 45 (by rw [h]; simp)
    simp at h3
  · have := decDigits_inj h; omega

theorem valFrom_ge (l : List UInt8) : ∀ acc, acc ≤ valFrom acc l := by
  induction l with
  | nil => intro acc; exact Nat.le_refl _
  | cons c l ih => intro acc; exact Nat.le_trans (by omega) (ih _)

theorem parseUint10_dec : ∀ (l : List UInt8) (acc : Nat), (∀ c ∈ l, 48 ≤ c.toNat ∧ c.toNat ≤ 57) → valFrom acc l < 18446744073709551616 → parseUint10 acc l = .ok (valFrom acc l)
  | [], _, _, _ => rfl
  | c :: r, acc, h, hv => by
    have hc := h c (by simp)
    have hg := valFrom_ge r (acc * 10 + (c.toNat - 48))
    have hv' : valFrom (acc * 10 + (c.toNat - 48)) r < 18446744073709551616 := hv
    rw [parseUint10, if_pos hc, if_neg (by omega), if_neg (by omega)]
    exact parseUint10_dec r _ (fun x hx => h x (by simp [hx])) hv

theorem parseUintM_dec : ∀ (l : List UInt8) (acc : Nat), (∀ c ∈ l, 48 ≤ c.toNat ∧ c.toNat ≤ 57) → valFrom acc l < 18446744073709551616 → parseUintM (2 ^ 64 - 1) acc l = .ok (valFrom acc l)
  | [], _, _, _ => rfl
  | c :: r, acc, h, hv => by
    have hc := h c (by simp)
    have hg := valFrom_ge r (acc * 10 + (c.toNat - 48))
    have hv' : valFrom (acc * 10 + (c.toNat - 48)) r < 18446744073709551616 := hv
    rw [parseUintM, if_pos hc, if_neg (by omega), if_neg (by omega)]
    exact parseUintM_dec r _ (fun x hx => h x (by simp [hx])) hv

theorem parseUintB_dec (u : Nat) (h : u < 18446744073709551616) : parseUintB 64 (decDigits u) = .ok u := by
  rw [parseUintB, if_neg (decDigits_ne u), parseUintM_dec _ _ (decDigits_mem u) (by rw [valFrom_dec]; exact h), valFrom_dec]

theorem atoiAll_itoa (n : Int) (h0 : -9223372036854775808 ≤ n) (h1 : n ≤ 9223372036854775807) : atoiAll (itoa n) = .ok n := by
  unfold itoa
  split
  · rename_i hn
    unfold atoiAll
    have e : parseMag (decDigits n.natAbs) = .ok n.natAbs := by
      rw [parseMag, if_neg (decDigits_ne _), parseUint10_dec _ _ (decDigits_mem _) (by rw [valFrom_dec]; omega), valFrom_dec]
    have e1 : ((45 : UInt8).toNat = 43 ∨ (45 : UInt8).toNat = 45) := by decide
    have e2 : (45 : UInt8).toNat = 45 := by decide
    dsimp only
    rw [if_pos e1, e]
    show (if ¬ ((45 : UInt8).toNat = 45) ∧ 9223372036854775808 ≤ n.natAbs then NumEnd.range else if (45 : UInt8).toNat = 45 ∧ 9223372036854775808 < n.natAbs then .range else .ok (if (45 : UInt8).toNat = 45 then -(n.natAbs : Int) else n.natAbs)) = _
    rw [if_neg (fun h => h.1 e2), if_neg (by omega), if_pos e2]
    congr 1; omega
  · rename_i hn
    unfold atoiAll
    cases hd : decDigits n.toNat with
    | nil => exact absurd hd (decDigits_ne _)
    | cons c r =>
      have hc := decDigits_mem n.toNat c (by rw [hd]; simp)
      have e1 : ¬ (c.toNat = 43 ∨ c.toNat = 45) := by omega
      have e2 : ¬ c.toNat = 45 := by omega
      have e : parseMag (c :: r) = .ok n.toNat := by
        rw [← hd, parseMag, if_neg (decDigits_ne _), parseUint10_dec _ _ (decDigits_mem _) (by rw [valFrom_dec]; omega), valFrom_dec]
      dsimp only
      rw [if_neg e1, e]
      show (if ¬ (c.toNat = 45) ∧ 9223372036854775808 ≤ n.toNat then NumEnd.range else if c.toNat = 45 ∧ 9223372036854775808 < n.toNat then .range else .ok (if c.toNat = 45 then -(n.toNat : Int) else n.toNat)) = _
      rw [if_neg (by omega), if_neg (fun h => e2 h.1), if_neg e2]
      congr 1; omega

theorem itoa_no (n : Int) : (32 : UInt8) ∉ itoa n := by
  intro h
  unfold itoa at h
  split at h
  · rcases List.mem_cons.1 h with h | h
    · exact absurd h (by decide)
    · have := decDigits_mem _ _ h; simp at this
  · have := decDigits_mem _ _ h; simp at this
theorem dec_no (u : Nat) : (32 : UInt8) ∉ decDigits u := fun h => by
  have := decDigits_mem _ _ h; simp at this

/-! ### words and lines -/
theorem join_cons2 (w w' : List UInt8) (r : List (List UInt8)) (sep : List UInt8) : join (w :: w' :: r) sep = w ++ (sep ++ join (w' :: r) sep) := by
  simp [join, List.intercalate]

theorem index_first32 (w r : List UInt8) (h : (32 : UInt8) ∉ w) : index (w ++ 32 :: r) [32] = w.length := by
  refine index_hit (i := w.length) ?_ (by simp) ?_
  · intro j hj
    unfold occAt
    rw [List.drop_append_of_le_length (by omega)]
    cases hd : w.drop j with
    | nil => simp at hd; omega
    | cons c t =>
      have hc : c ∈ w := List.mem_of_mem_drop (i := j) (by rw [hd]; simp)
      have : ¬ (32 : UInt8) = c := fun e => h (e ▸ hc)
      show ((32 : UInt8) == c && _) = false
      rw [beq_false_of_ne this]; rfl
  · unfold occAt
    simp

theorem split_join : ∀ (w : List UInt8) (r : List (List UInt8)), (∀ x ∈ w :: r, (32 : UInt8) ∉ x) → split (join (w :: r) [32]) [32] = w :: r
  | w, [], h => by
    have h0 := h w (by simp)
    rw [join_one, split, count_one, List.count_eq_zero.2 h0]
    rfl
  | w, w' :: r, h => by
    have h0 := h w (by simp)
    have ih := split_join w' r (fun x hx => h x (by simp at hx ⊢; exact .inr hx))
    rw [join_cons2, split, count_one] at *
    have e : (w ++ ([32] ++ join (w' :: r) [32])).count 32 = (join (w' :: r) [32]).count 32 + 1 := by
      rw [List.count_append, List.count_append, List.count_eq_zero.2 h0]; simp [Nat.add_comm]
    have ei := index_first32 w (join (w' :: r) [32]) h0
    rw [e, splitK]
    rw [show w ++ ([32] ++ join (w' :: r) [32]) = w ++ 32 :: join (w' :: r) [32] from rfl, ei, if_neg (by simp)]
    rw [show ((w.length : Int)).toNat = w.length from rfl]
    congr 1
    · simp
    · rw [show w.length + [(32 : UInt8)].length = (w ++ [32]).length by simp,
        show w ++ 32 :: join (w' :: r) [32] = (w ++ [32]) ++ join (w' :: r) [32] by simp, List.drop_left]
      exact ih

/-! ### entries -/
structure Stp where
  kind : Int
  a : Int
  b : Int
  c : Int
  v : Nat
def Stp.ok (x : Stp) : Prop := (-9223372036854775808 ≤ x.a ∧ x.a ≤ 9223372036854775807) ∧ (-9223372036854775808 ≤ x.b ∧ x.b ≤ 9223372036854775807) ∧
  (-9223372036854775808 ≤ x.c ∧ x.c ≤ 9223372036854775807) ∧ x.v < 18446744073709551616

/-- the word, the number of numbers, and whether a scalar, of a kind (from 0 on) -/
def wordOf : Nat → List UInt8
  | 0 => [109, 97, 107, 101]
  | 1 => [103, 101, 116]
  | 2 => [115, 101, 116]
  | 3 => [114, 101, 97, 100]
  | 4 => [119, 114, 105, 116, 101]
  | 5 => [99, 108, 101, 97, 114]
  | 6 => [99, 111, 112, 121]
  | 7 => [115, 97, 109, 101]
  | 8 => [110, 105, 108]
  | 9 => [115, 104, 97, 112, 101]
  | 10 => [105, 100, 108, 101]
  | _ => [102, 111, 114, 99, 101]
def sizeOf : Nat → Nat
  | 0 => 3
  | 1 => 3
  | 2 => 3
  | 3 => 2
  | 4 => 2
  | 5 => 1
  | 6 => 2
  | 7 => 2
  | 8 => 1
  | 9 => 1
  | 10 => 2
  | _ => 1
def scalOf : Nat → Bool
  | 4 => true
  | _ => false

def nums (x : Stp) : List Int := [x.a, x.b, x.c]
def tailL (x : Stp) (n : Nat) (sc : Bool) : List (List UInt8) := ((nums x).take n).map itoa ++ if sc then [decDigits x.v] else []
def wordsL (x : Stp) (k : Nat) : List (List UInt8) := wordOf k :: tailL x (sizeOf k) (scalOf k)
def fitsN (x : Stp) (n : Nat) (sc : Bool) : Bool := ((nums x).drop n).all (· == 0) && (sc || x.v == 0)
def fitsB (x : Stp) (k : Nat) : Bool := fitsN x (sizeOf k) (scalOf k)
def lineAt (x : Stp) (k : Nat) : List UInt8 := join (wordsL x k) [32]
def okB (x : Stp) : Bool := decide (1 ≤ x.kind) && decide (x.kind ≤ 12) && fitsB x (x.kind - 1).toNat
/-- x's line is s -/
def Is (x : Stp) (s : List UInt8) : Prop := x.ok ∧ okB x = true ∧ lineAt x (x.kind - 1).toNat = s

theorem wordOf_no (k : Nat) : (32 : UInt8) ∉ wordOf k := by
  unfold wordOf; split <;> decide
theorem tail_no (x : Stp) (n : Nat) (sc : Bool) : ∀ y ∈ tailL x n sc, (32 : UInt8) ∉ y := by
  intro y hy
  unfold tailL at hy
  rcases List.mem_append.1 hy with hy | hy
  · obtain ⟨m, _, rfl⟩ := List.mem_map.1 hy; exact itoa_no m
  · split at hy
    · simp at hy; subst hy; exact dec_no _
    · simp at hy
theorem split_line (x : Stp) (k : Nat) : split (lineAt x k) [32] = wordsL x k :=
  split_join _ _ (fun y hy => by
    rcases List.mem_cons.1 hy with rfl | hy
    · exact wordOf_no k
    · exact tail_no _ _ _ y hy)

theorem wordOf_inj {k j : Nat} (hk : k < 12) (hj : j < 12) (h : wordOf k = wordOf j) : k = j := by
  have H : ∀ a : Fin 12, ∀ b : Fin 12, wordOf a.val = wordOf b.val → a = b := by decide
  have := H ⟨k, hk⟩ ⟨j, hj⟩ h
  exact congrArg Fin.val this

theorem sizeOf_range (k : Nat) : 1 ≤ sizeOf k ∧ sizeOf k ≤ 3 := by
  unfold sizeOf; split <;> decide

theorem tail_inj {x y : Stp} {n : Nat} {sc : Bool} (hn : 1 ≤ n) (hn3 : n ≤ 3) (fx : fitsN x n sc = true) (fy : fitsN y n sc = true) (h : tailL x n sc = tailL y n sc) :
    x.a = y.a ∧ x.b = y.b ∧ x.c = y.c ∧ x.v = y.v := by
  unfold tailL nums at h
  unfold fitsN nums at fx fy
  obtain rfl | rfl | rfl : n = 1 ∨ n = 2 ∨ n = 3 := by omega
  all_goals cases sc
  all_goals simp at h fx fy
  all_goals first
    | exact ⟨itoa_inj h.1, by omega, by omega, by omega⟩
    | exact ⟨itoa_inj h.1, itoa_inj h.2, by omega, by omega⟩
    | exact ⟨itoa_inj h, by omega, by omega, by omega⟩
    | exact ⟨itoa_inj h.1, by omega, by omega, decDigits_inj h.2⟩
    | exact ⟨itoa_inj h.1, itoa_inj h.2.1, by omega, decDigits_inj h.2.2⟩
    | exact ⟨itoa_inj h.1, itoa_inj h.2.1, itoa_inj h.2.2, by omega⟩
    | exact ⟨itoa_inj h.1, itoa_inj h.2.1, itoa_inj h.2.2.1, decDigits_inj h.2.2.2⟩

theorem okB_kind {x : Stp} (h : okB x = true) : (x.kind - 1).toNat < 12 ∧ x.kind = (x.kind - 1).toNat + 1 ∧ fitsB x (x.kind - 1).toNat = true := by
  unfold okB at h
  rw [Bool.and_eq_true, Bool.and_eq_true, decide_eq_true_eq, decide_eq_true_eq] at h
  exact ⟨by omega, by omega, h.2⟩

theorem Is.inj {x y : Stp} {s : List UInt8} (hx : Is x s) (hy : Is y s) : x = y := by
  obtain ⟨-, kx, ex⟩ := hx
  obtain ⟨-, ky, ey⟩ := hy
  obtain ⟨kx1, kx2, kx3⟩ := okB_kind kx
  obtain ⟨ky1, ky2, ky3⟩ := okB_kind ky
  have h : wordsL x (x.kind - 1).toNat = wordsL y (y.kind - 1).toNat := by rw [← split_line, ← split_line, ex, ey]
  unfold wordsL at h
  have hk := wordOf_inj kx1 ky1 (List.cons.inj h).1
  have ht := (List.cons.inj h).2
  rw [hk] at ht kx3
  obtain ⟨h1, h2, h3, h4⟩ := tail_inj (sizeOf_range _).1 (sizeOf_range _).2 kx3 ky3 ht
  have h0 : x.kind = y.kind := by omega
  cases x; cases y
  simp only [Stp.mk.injEq]
  exact ⟨h0, h1, h2, h3, h4⟩

/-! ### sizes -/
theorem decDigits_len (u : Nat) (h : u < 18446744073709551616) : (decDigits u).length ≤ 20 := by
  have := itoa_length_le
  rw [decDigits_length]
  have h1 := nDigits_pos u
  rcases Nat.lt_or_ge (nDigits u) 21 with h2 | h2
  · omega
  · exfalso
    have h3 : 10 ^ 20 ≤ u := by
      have key : ∀ u, ∀ k, k + 1 ≤ nDigits u → 1 ≤ k → 10 ^ k ≤ u := by
        intro u
        induction u using Nat.strongRecOn with
        | _ u ih =>
          intro k hk hk1
          by_cases hu : u < 10
          · rw [nDigits_small hu] at hk; omega
          · rw [nDigits_big hu] at hk
            cases k with
            | zero => omega
            | succ k =>
              cases k with
              | zero => simp; omega
              | succ k =>
                have := ih (u / 10) (by omega) (k + 1) (by omega) (by omega)
                rw [Nat.pow_succ]; omega
      exact key u 20 (by omega) (by omega)
    omega

theorem join_len : ∀ (l : List (List UInt8)) (m : Nat), (∀ x ∈ l, x.length ≤ m) → (join l [32]).length ≤ l.length * (m + 1)
  | [], _, _ => by simp [join, List.intercalate]
  | [w], m, h => by rw [join_one]; have := h w (by simp); simp; omega
  | w :: w' :: r, m, h => by
    have ih := join_len (w' :: r) m (fun x hx => h x (by simp at hx ⊢; exact .inr hx))
    have h0 := h w (by simp)
    rw [join_cons2]
    simp only [List.length_append, List.length_cons, List.length_nil] at *
    rw [Nat.add_mul]; omega

theorem wordOf_len (k : Nat) : (wordOf k).length ≤ 5 := by unfold wordOf; split <;> decide
theorem tail_len (x : Stp) (hx : x.ok) (n : Nat) (sc : Bool) : (tailL x n sc).length ≤ 4 ∧ ∀ y ∈ tailL x n sc, y.length ≤ 21 := by
  obtain ⟨h1, h2, h3, h4⟩ := hx
  refine ⟨?_, ?_⟩
  · unfold tailL nums
    simp only [List.length_append, List.length_map, List.length_take, List.length_cons, List.length_nil]
    cases sc <;> simp <;> omega
  · intro y hy
    unfold tailL at hy
    rcases List.mem_append.1 hy with hy | hy
    · obtain ⟨m, hm, rfl⟩ := List.mem_map.1 hy
      have hm' := List.mem_of_mem_take hm
      unfold nums at hm'
      simp at hm'
      rcases hm' with rfl | rfl | rfl
      · exact itoa_length_le _ h1.1 h1.2
      · exact itoa_length_le _ h2.1 h2.2
      · exact itoa_length_le _ h3.1 h3.2
    · split at hy
      · simp at hy; subst hy; have := decDigits_len x.v h4; omega
      · simp at hy
theorem line_len (x : Stp) (hx : x.ok) (k : Nat) : (lineAt x k).length ≤ 110 := by
  have h := tail_len x hx (sizeOf k) (scalOf k)
  have hj := join_len (wordsL x k) 21 (by
    intro y hy
    rcases List.mem_cons.1 hy with rfl | hy
    · have := wordOf_len k; omega
    · exact h.2 y hy)
  have hl : (wordsL x k).length ≤ 5 := by unfold wordsL; simp only [List.length_cons]; omega
  unfold lineAt
  have : (wordsL x k).length * (21 + 1) ≤ 5 * 22 := Nat.mul_le_mul_right _ hl
  omega
end Tl
end Go.Proofs.YtjhmeccdbcblbaaDoor
