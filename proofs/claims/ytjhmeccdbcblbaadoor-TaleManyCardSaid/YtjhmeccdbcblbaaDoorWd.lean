/- The walk of tale.read: words by a form. -/
import Derived.Test.YtjhmeccdbcblbaaDoorWc
set_option linter.unusedSimpArgs false
set_option linter.unusedVariables false
namespace Go.Proofs.YtjhmeccdbcblbaaDoor
open Go.RowKit Go.Sort
open Go.Lib (itoa decDigits join)

/-! ### numbers of texts -/
theorem num_itoa (n : Int) : Num (str (itoa n)) := by
  have key : ∀ (u : Nat), ∃ (j : Nat) (h : j < (decDigits u).length), 48 ≤ ((decDigits u)[j]'h).toNat := fun u => by
    cases hd : decDigits u with
    | nil => exact absurd hd (Tl.decDigits_ne u)
    | cons c r => exact ⟨0, by simp, (Tl.decDigits_mem u c (by rw [hd]; simp)).1⟩
  have hg : ∀ (l : List UInt8) (j : Nat) (h : j < (str l).size), (str l)[j] = l[j]'h := fun l j h => rfl
  unfold itoa
  split
  · refine ⟨fun j h => ?_, ?_⟩
    · rw [hg]
      cases j with
      | zero => exact .inr ⟨rfl, rfl⟩
      | succ j =>
        have := Tl.decDigits_mem n.natAbs _ (List.getElem_mem (l := decDigits n.natAbs) (n := j) (by have h' : j + 1 < (45 :: decDigits n.natAbs).length := h; simpa using h'))
        exact .inl this
    · obtain ⟨j, h, h2⟩ := key n.natAbs
      exact ⟨j + 1, by show j + 1 < (45 :: decDigits n.natAbs).length; simp; omega, by rw [hg]; simpa using h2⟩
  · refine ⟨fun j h => ?_, ?_⟩
    · rw [hg]
      exact .inl (Tl.decDigits_mem n.toNat _ (List.getElem_mem _))
    · obtain ⟨j, h, h2⟩ := key n.toNat
      exact ⟨j, h, h2⟩

theorem atoi_range (l : List UInt8) (v : Int) (h : Lib.atoiAll l = .ok v) : -9223372036854775808 ≤ v ∧ v ≤ 9223372036854775807 := by
  unfold Lib.atoiAll at h
  split at h
  · cases h
  · rename_i c r
    simp only at h
    split at h
    · cases h
    · cases h
    · split at h
      · cases h
      · split at h
        · cases h
        · injection h with h
          rename_i h1 h2
          split at h <;> omega

/-- the number of a text, whatever it is -/
def AtoiP (s : ByteArray) (w : World) (e : Ending) (w' : World) : Prop :=
  ∃ (v : Int) (ev : Value), e = .returned (.tuple #[.int .i64 v, ev]) ∧ (-9223372036854775808 ≤ v ∧ v ≤ 9223372036854775807) ∧
    (∀ m : Int, -9223372036854775808 ≤ m → m ≤ 9223372036854775807 → s = str (itoa m) → v = m) ∧ Below w.heap.size w w'

theorem below_bytes (w : World) (e : TypeId) (t : ByteArray) : Below w.heap.size w (Lib.bytesWorld w e t) := by
  refine ⟨rfl, rfl, rfl, ?_, fun k hk => ?_⟩
  · simp [Lib.bytesWorld, World.freeze]
  · simp only [Lib.bytesWorld, World.freeze, Nat.one_ne_zero, if_false, Array.getElem?_modify]
    rw [if_neg (by omega)]
    exact Below.heap_alloc w.drew _ k hk

theorem Atoi_any (s : ByteArray) (hs : s.size ≤ 4294967296) (w : World) (hE : Env w) : Calls Tryd.prog 30 #[.string s] w (AtoiP s w) := by
  cases h : Lib.atoiAll s.data.toList with
  | ok v =>
    refine (Tryd.strconv_Atoi_ok s (by omega) v h w).mono fun e w' ⟨he, hw⟩ => ⟨v, _, he, atoi_range _ _ h, fun m h0 h1 hm => ?_, ?_⟩
    · rw [hm] at h
      have := Tl.atoiAll_itoa m h0 h1
      exact Lib.NumEnd.ok.inj (h.symm.trans this)
    · rcases hw with rfl | ⟨t, rfl⟩
      · exact Below.refl _ _
      · exact below_bytes _ _ _
  | range =>
    obtain ⟨tp, p, hv⟩ := hE.rng
    refine (Tryd.strconv_Atoi_range s (by omega) h _ w hv (.inr ⟨_, _, rfl⟩)).mono fun e w' ⟨N, he, _, _, hb⟩ => ⟨_, _, he, by unfold Lib.atoiSat; split <;> omega, fun m h0 h1 hm => ?_, hb⟩
    rw [hm] at h
    have := Tl.atoiAll_itoa m h0 h1
    cases h.symm.trans this
  | _ =>
    obtain ⟨tp, p, hv⟩ := hE.syn
    refine (Any.strconv_Atoi_syntax Tryd.laysC172 s (by omega) h _ w hv (.inr ⟨_, _, rfl⟩)).mono fun e w' ⟨N, he, _, _, hb⟩ => ⟨0, _, he, by omega, fun m h0 h1 hm => ?_, hb⟩
    rw [hm] at h
    have := Tl.atoiAll_itoa m h0 h1
    cases h.symm.trans this

def UintP (s : ByteArray) (w : World) (e : Ending) (w' : World) : Prop :=
  ∃ (v : Nat) (ev : Value), e = .returned (.tuple #[.int .u64 v, ev]) ∧ v < 18446744073709551616 ∧
    (∀ m : Nat, m < 18446744073709551616 → s = str (decDigits m) → v = m) ∧ Below w.heap.size w w'

theorem uint_range (l : List UInt8) (v : Nat) (h : Lib.parseUintB 64 l = .ok v) : v < 18446744073709551616 := by
  have key : ∀ (l : List UInt8) (acc : Nat), acc < 18446744073709551616 → Lib.parseUintM (2 ^ 64 - 1) acc l = .ok v → v < 18446744073709551616 := by
    intro l
    induction l with
    | nil => intro acc ha h; rw [Lib.parseUintM] at h; injection h with h; omega
    | cons c r ih =>
      intro acc ha h
      rw [Lib.parseUintM] at h
      split at h
      · split at h
        · cases h
        · split at h
          · cases h
          · exact ih _ (by omega) h
      · cases h
  unfold Lib.parseUintB at h
  split at h
  · cases h
  · exact key l 0 (by omega) h

theorem ParseUint_any (s : ByteArray) (hs : s.size ≤ 4294967296) (w : World) (hE : Env w) : Calls Tryd.prog 31 #[.string s, .int .i64 10, .int .i64 64] w (UintP s w) := by
  cases h : Lib.parseUintB 64 s.data.toList with
  | ok v =>
    refine (Tryd.strconv_ParseUint_10_at64_ok s (by omega) v h w).mono fun e w' ⟨he, hw⟩ => ⟨v, _, he, uint_range _ _ h, fun m h0 hm => ?_, ?_⟩
    · rw [hm] at h
      have := Tl.parseUintB_dec m h0
      exact Lib.NumEnd.ok.inj (h.symm.trans this)
    · rcases hw with rfl | rfl
      · exact Below.refl _ _
      · exact below_bytes _ _ _
  | range =>
    obtain ⟨tp, p, hv⟩ := hE.rng
    refine (Tryd.strconv_ParseUint_10_at64_range s (by omega) h _ w hv (.inr ⟨_, _, rfl⟩)).mono fun e w' ⟨N, he, _, _, hb⟩ => ⟨18446744073709551615, _, he, by omega, fun m h0 hm => ?_, hb⟩
    rw [hm] at h
    have := Tl.parseUintB_dec m h0
    cases h.symm.trans this
  | _ =>
    obtain ⟨tp, p, hv⟩ := hE.syn
    refine (Any.strconv_ParseUint_10_at64_syntax Tryd.laysPu14 s (by omega) h _ w hv (.inr ⟨_, _, rfl⟩)).mono fun e w' ⟨N, he, _, _, hb⟩ => ⟨0, _, he, by omega, fun m h0 hm => ?_, hb⟩
    rw [hm] at h
    have := Tl.parseUintB_dec m h0
    cases h.symm.trans this

def PlainP (s : ByteArray) (w : World) (e : Ending) (w' : World) : Prop := ∃ b : Bool, e = .returned (.bool b) ∧ (Num s → b = true) ∧ Below w.heap.size w w'
theorem plain_any (s : ByteArray) (w : World) (hs : s.size ≤ 4294967296) : Calls Tryd.prog 29 #[.string s] w (PlainP s w) := by
  by_cases h : Num s
  · exact (plain_num s w hs h).mono fun e w' ⟨he, hb⟩ => ⟨true, he, fun _ => rfl, hb⟩
  · exact (plain_some s w hs).mono fun e w' ⟨b, he, hb⟩ => ⟨b, he, fun h' => absurd h' h, hb⟩

/-! ### read -/
/-- x's words are these -/
def Match (L : List ByteArray) (k : Nat) (wd : ByteArray) (n : Nat) (sc : Bool) (x : Tl.Stp) : Prop :=
  x.ok ∧ x.kind = k + 1 ∧ Tl.fitsN x n sc = true ∧ L = wordsB wd x n sc

def ReadP (L : List ByteArray) (k : Nat) (wd : ByteArray) (n : Nat) (sc : Bool) (w : World) (e : Ending) (w' : World) : Prop :=
  ∃ (y : Tl.Stp) (b : Bool), e = .returned (.tuple #[.agg (stepC y), .bool b]) ∧ y.ok ∧ (b = true → y.kind = k + 1 ∧ Tl.fitsN y n sc = true) ∧
    (∀ x, Match L k wd n sc x → b = true ∧ y = x) ∧ Below w.heap.size w w'

def zeroS : Tl.Stp := ⟨0, 0, 0, 0, 0⟩
theorem zeroS_ok : zeroS.ok := by unfold zeroS Tl.Stp.ok; simp

theorem sc {a w : World} {p : Addr} (hp : a.heap.size ≤ p.block) (h : Below a.heap.size a w) (u : Value) : Below a.heap.size a (w.setCell p u) := h.setCell hp u
theorem str_ne {a b : ByteArray} (h : a ≠ b) : (a.toList == b.toList) = false := by
  rw [Lib.toList_data, Lib.toList_data]
  refine beq_eq_false_iff_ne.2 fun e => h ?_
  rw [← Lib.mk_data a, e, Lib.mk_data]
theorem str_eq (a : ByteArray) : (a.toList == a.toList) = true := beq_self_eq_true _

theorem lt_of_cell {w : World} {b o : Nat} {v : Value} (h : w.cell? ⟨b, o, none⟩ = some v) : b < w.heap.size := by
  by_cases hb : b < w.heap.size
  · exact hb
  · simp [World.cell?, Array.getElem?_eq_none (Nat.le_of_not_lt hb)] at h

set_option maxRecDepth 100000 in
set_option maxHeartbeats 1000000 in
theorem read_word (bk : Nat) (L : List ByteArray) (k : Nat) (hk : k < 12) (wd : ByteArray) (n : Nat) (hn : 1 ≤ n ∧ n ≤ 3) (sc : Bool) (w : World) (s0 : ByteArray) (hL0 : L[0]? = some s0) (hLl : L.length ≤ 4294967296)
    (hc : w.cell? ⟨bk, 0, none⟩ = some (.string s0)) (hs : s0 ≠ wd) :
    Calls Tryd.prog 20 #[.slice (some ⟨bk, 0, none⟩) L.length L.length, .int .i64 (k + 1), .agg #[.string wd, .int .i64 n, .bool sc]] w (ReadP L k wd n sc w) := by
  have hl0 : 0 < L.length := (List.getElem?_eq_some_iff.1 hL0).1
  have hlt := lt_of_cell hc
  have b1 : (0 : Int) < (L.length : Int) := by omega
  have hlt1 : ¬ bk = w.heap.size := by omega
  have hlt2 : ¬ bk = w.heap.size + 1 := by omega
  have e1 := str_ne hs
  have hno : ∀ x, Match L k wd n sc x → false = true ∧ zeroS = x := fun x hx => absurd (by
    have h := hx.2.2.2
    rw [h] at hL0
    unfold wordsB partB at hL0
    simp at hL0
    exact hL0.symm) hs
  have HN := Lib.hid hno
  clear hno hL0
  cases sc
  all_goals
    go_enter Tryd.func20, Tryd.ntmps20
    go_wp2
    go_quiet (fail)
    go_wp2
    refine bodyPost_ret (v := .tuple #[.agg (stepC zeroS), .bool false]) (by simp [results, Tryd.results20, go_sem, stepC, zeroS]) rfl ?_
    refine ⟨zeroS, false, rfl, zeroS_ok, (fun h => nomatch h), HN.out, ?_⟩
    (repeat (first | (with_reducible exact Below.refl _ _) | (with_reducible refine al ?_ _) | (with_reducible refine below_drewN ?_ _) | (with_reducible refine Below.drew ?_) | (with_reducible refine sc ?_ ?_ _; (first | exact Nat.le_refl _ | exact Nat.le_add_right _ _ | (simp only [Nat.add_assoc]; exact Nat.le_add_right _ _)))))

set_option maxRecDepth 100000 in
set_option maxHeartbeats 1000000 in
theorem read_len (bk : Nat) (L : List ByteArray) (k : Nat) (hk : k < 12) (wd : ByteArray) (n : Nat) (hn : 1 ≤ n ∧ n ≤ 3) (sc : Bool) (w : World) (hL0 : L[0]? = some wd) (hLl : L.length ≤ 4294967296)
    (hc : w.cell? ⟨bk, 0, none⟩ = some (.string wd)) (hs : L.length ≠ 1 + n + (if sc then 1 else 0)) :
    Calls Tryd.prog 20 #[.slice (some ⟨bk, 0, none⟩) L.length L.length, .int .i64 (k + 1), .agg #[.string wd, .int .i64 n, .bool sc]] w (ReadP L k wd n sc w) := by
  have hl0 : 0 < L.length := (List.getElem?_eq_some_iff.1 hL0).1
  have hlt := lt_of_cell hc
  have b1 : (0 : Int) < (L.length : Int) := by omega
  have hlt1 : ¬ bk = w.heap.size := by omega
  have hlt2 : ¬ bk = w.heap.size + 1 := by omega
  have e1 := str_eq wd
  have hno : ∀ x, Match L k wd n sc x → false = true ∧ zeroS = x := fun x hx => absurd (by
    have h := hx.2.2.2
    rw [h]
    unfold wordsB
    rw [List.length_append, partB_length _ _ _ hn.2]
    cases sc <;> simp <;> omega) hs
  have HN := Lib.hid hno
  clear hno hL0
  cases sc
  · have e2 : (((L.length : Int)) == 1 + (n : Int)) = false := by simp at hs ⊢; omega
    clear hs
    go_enter Tryd.func20, Tryd.ntmps20
    go_wp2
    go_quiet (fail)
    go_wp2
    refine bodyPost_ret (v := .tuple #[.agg (stepC zeroS), .bool false]) (by simp [results, Tryd.results20, go_sem, stepC, zeroS]) rfl ?_
    refine ⟨zeroS, false, rfl, zeroS_ok, (fun h => nomatch h), HN.out, ?_⟩
    (repeat (first | (with_reducible exact Below.refl _ _) | (with_reducible refine al ?_ _) | (with_reducible refine below_drewN ?_ _) | (with_reducible refine Below.drew ?_) | (with_reducible refine sc ?_ ?_ _; (first | exact Nat.le_refl _ | exact Nat.le_add_right _ _ | (simp only [Nat.add_assoc]; exact Nat.le_add_right _ _)))))
  · have e2 : (((L.length : Int)) == 1 + (n : Int) + 1) = false := by simp at hs ⊢; omega
    clear hs
    go_enter Tryd.func20, Tryd.ntmps20
    go_wp2
    go_quiet (fail)
    go_wp2
    refine bodyPost_ret (v := .tuple #[.agg (stepC zeroS), .bool false]) (by simp [results, Tryd.results20, go_sem, stepC, zeroS]) rfl ?_
    refine ⟨zeroS, false, rfl, zeroS_ok, (fun h => nomatch h), HN.out, ?_⟩
    (repeat (first | (with_reducible exact Below.refl _ _) | (with_reducible refine al ?_ _) | (with_reducible refine below_drewN ?_ _) | (with_reducible refine Below.drew ?_) | (with_reducible refine sc ?_ ?_ _; (first | exact Nat.le_refl _ | exact Nat.le_add_right _ _ | (simp only [Nat.add_assoc]; exact Nat.le_add_right _ _)))))
end Go.Proofs.YtjhmeccdbcblbaaDoor
